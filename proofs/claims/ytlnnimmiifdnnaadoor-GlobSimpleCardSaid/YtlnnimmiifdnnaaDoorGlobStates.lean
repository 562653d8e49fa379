/- Plain: the states that are reached, as the code's rows have them. -/
import Derived.Test.YtlnnimmiifdnnaaDoorGlobPlain
namespace Go.Proofs.YtlnnimmiifdnnaaDoor
open Classical

noncomputable def rB (f : Bool) (ps : List GPart) (u : List Nat) (i : Nat) : Bool := decide (Reached f ps u i)
theorem rB_iff {f : Bool} {ps : List GPart} {u : List Nat} {i : Nat} : rB f ps u i = true ↔ Reached f ps u i := by unfold rB; exact decide_eq_true_iff
def manyAt (ps : List GPart) (i : Nat) : Bool := match ps[i]? with
  | some p => p.many
  | none => false
theorem manyAt_of {ps : List GPart} {i : Nat} {p : GPart} (h : ps[i]? = some p) : manyAt ps i = p.many := by unfold manyAt; rw [h]
/-- The states behind those that may stand for nothing. -/
def skipF (ps : List GPart) (f0 : Nat → Bool) : Nat → Bool
  | 0 => f0 0
  | i + 1 => f0 (i + 1) || (skipF ps f0 i && manyAt ps i)
theorem skipF_succ (ps : List GPart) (f0 : Nat → Bool) (i : Nat) : skipF ps f0 (i + 1) = (f0 (i + 1) || (skipF ps f0 i && manyAt ps i)) := rfl
def startF (i : Nat) : Bool := decide (i = 0)

theorem skip_start (f : Bool) (ps : List GPart) : ∀ i, i ≤ ps.length → skipF ps startF i = rB f ps [] i := by
  intro i
  induction i with
  | zero => intro _; exact (rB_iff.2 (reached_nil_zero f ps)).symm
  | succ i ih =>
    intro hi
    have hp : ps[i]? = some (ps[i]'(by omega)) := List.getElem?_eq_getElem (by omega)
    rw [skipF_succ, ih (by omega), manyAt_of hp, Bool.eq_iff_iff, rB_iff, reached_nil_succ hp]
    simp [startF, rB_iff]

def Con (f : Bool) (ps : List GPart) (u : List Nat) (c j m : Nat) : Prop := ∃ p, ps[j]? = some p ∧ Reached f ps u j ∧ standsB p c f = true ∧ ((p.many = true ∧ m = j) ∨ (p.many = false ∧ m = j + 1))
/-- What a step has reached, of the first so many parts. -/
noncomputable def stepTo (f : Bool) (ps : List GPart) (u : List Nat) (c i m : Nat) : Bool := decide (∃ j, j < i ∧ Con f ps u c j m)
theorem stepTo_iff {f : Bool} {ps : List GPart} {u : List Nat} {c i m : Nat} : stepTo f ps u c i m = true ↔ ∃ j, j < i ∧ Con f ps u c j m := by unfold stepTo; exact decide_eq_true_iff
theorem stepTo_zero (f : Bool) (ps : List GPart) (u : List Nat) (c m : Nat) : stepTo f ps u c 0 m = false := by
  rw [Bool.eq_false_iff]; intro h
  obtain ⟨j, hj, _⟩ := stepTo_iff.1 h
  omega
theorem stepTo_succ {f : Bool} {ps : List GPart} {u : List Nat} {c i m : Nat} : stepTo f ps u c (i + 1) m = true ↔ (stepTo f ps u c i m = true ∨ Con f ps u c i m) := by
  rw [stepTo_iff, stepTo_iff]
  constructor
  · rintro ⟨j, hj, h⟩
    by_cases e : j = i
    · exact .inr (e ▸ h)
    · exact .inl ⟨j, by omega, h⟩
  · rintro (⟨j, hj, h⟩ | h)
    · exact ⟨j, by omega, h⟩
    · exact ⟨i, by omega, h⟩
theorem con_of {f : Bool} {ps : List GPart} {u : List Nat} {c i m : Nat} {p : GPart} (hp : ps[i]? = some p) : Con f ps u c i m ↔ (rB f ps u i = true ∧ standsB p c f = true ∧ ((p.many = true ∧ m = i) ∨ (p.many = false ∧ m = i + 1))) := by
  unfold Con
  rw [rB_iff]
  constructor
  · rintro ⟨q, hq, h1, h2, h3⟩
    rw [hp] at hq; cases hq
    exact ⟨h1, h2, h3⟩
  · rintro ⟨h1, h2, h3⟩
    exact ⟨p, hp, h1, h2, h3⟩
theorem step_none {f : Bool} {ps : List GPart} {u : List Nat} {c i : Nat} {p : GPart} (hp : ps[i]? = some p) (h : rB f ps u i = false ∨ standsB p c f = false) (m : Nat) : stepTo f ps u c (i + 1) m = stepTo f ps u c i m := by
  rw [Bool.eq_iff_iff, stepTo_succ, con_of hp]
  rcases h with h | h <;> simp [h]
theorem step_many {f : Bool} {ps : List GPart} {u : List Nat} {c i : Nat} {p : GPart} (hp : ps[i]? = some p) (h1 : rB f ps u i = true) (h2 : standsB p c f = true) (h3 : p.many = true) (m : Nat) : stepTo f ps u c (i + 1) m = if m = i then true else stepTo f ps u c i m := by
  rw [Bool.eq_iff_iff, stepTo_succ, con_of hp]
  by_cases hm : m = i <;> simp [h1, h2, h3, hm]
theorem step_one {f : Bool} {ps : List GPart} {u : List Nat} {c i : Nat} {p : GPart} (hp : ps[i]? = some p) (h1 : rB f ps u i = true) (h2 : standsB p c f = true) (h3 : p.many = false) (m : Nat) : stepTo f ps u c (i + 1) m = if m = i + 1 then true else stepTo f ps u c i m := by
  rw [Bool.eq_iff_iff, stepTo_succ, con_of hp]
  by_cases hm : m = i + 1 <;> simp [h1, h2, h3, hm]
theorem stepTo_all {f : Bool} {ps : List GPart} {u : List Nat} {c m : Nat} : stepTo f ps u c ps.length m = true ↔ Stepped f ps u c m := by
  rw [stepTo_iff]
  constructor
  · rintro ⟨j, hj, p, hp, h1, h2, (⟨h3, rfl⟩ | ⟨h3, rfl⟩)⟩
    · exact .inl ⟨p, hp, h1, h2, h3⟩
    · exact .inr ⟨j, p, rfl, hp, h1, h2, h3⟩
  · rintro (⟨p, hp, h1, h2, h3⟩ | ⟨j, p, rfl, hp, h1, h2, h3⟩)
    · exact ⟨m, (List.getElem?_eq_some_iff.1 hp).1, p, hp, h1, h2, .inl ⟨h3, rfl⟩⟩
    · exact ⟨j, (List.getElem?_eq_some_iff.1 hp).1, p, hp, h1, h2, .inr ⟨h3, rfl⟩⟩
theorem skip_step (f : Bool) (ps : List GPart) (u : List Nat) (c : Nat) : ∀ i, i ≤ ps.length → skipF ps (stepTo f ps u c ps.length) i = rB f ps (u ++ [c]) i := by
  intro i
  induction i with
  | zero => intro _; rw [Bool.eq_iff_iff, rB_iff, reached_snoc_zero, ← stepTo_all]; rfl
  | succ i ih =>
    intro hi
    have hp : ps[i]? = some (ps[i]'(by omega)) := List.getElem?_eq_getElem (by omega)
    rw [skipF_succ, ih (by omega), manyAt_of hp, Bool.eq_iff_iff, rB_iff, reached_snoc_succ hp, ← stepTo_all, ← rB_iff, Bool.or_eq_true, Bool.and_eq_true]
theorem rB_all (f : Bool) (ps : List GPart) (u : List Nat) : rB f ps u ps.length = langB f ps u := by
  rw [Bool.eq_iff_iff, rB_iff, reached_all, langB_iff]
end Go.Proofs.YtlnnimmiifdnnaaDoor
