/- Plain: whether characters are in the language of parts, as a function; the parts of a pattern. -/
import Derived.Test.YtlnnimmiifdnnaaDoorGlobLang
namespace Go.Proofs.YtlnnimmiifdnnaaDoor

def starB (g : List Nat → Bool) (s : Nat → Bool) : List Nat → Bool
  | [] => g []
  | c :: v => g (c :: v) || (s c && starB g s v)
def oneB (g : List Nat → Bool) (s : Nat → Bool) : List Nat → Bool
  | [] => false
  | c :: v => s c && g v
/-- Are characters in the language of parts? -/
def langB (f : Bool) : List GPart → List Nat → Bool
  | [] => fun u => u.isEmpty
  | p :: ps => if p.many = true then starB (langB f ps) (standsB p · f) else oneB (langB f ps) (standsB p · f)

theorem starB_iff (g : List Nat → Bool) (s : Nat → Bool) (u : List Nat) : starB g s u = true ↔ ∃ a b, u = a ++ b ∧ (∀ c ∈ a, s c = true) ∧ g b = true := by
  induction u with
  | nil =>
    unfold starB
    constructor
    · intro h; exact ⟨[], [], rfl, (fun c hc => by cases hc), h⟩
    · rintro ⟨a, b, hab, _, hb⟩
      obtain ⟨rfl, rfl⟩ : a = [] ∧ b = [] := by simpa [eq_comm] using hab
      exact hb
  | cons x u ih =>
    unfold starB
    rw [Bool.or_eq_true, Bool.and_eq_true, ih]
    constructor
    · rintro (h | ⟨h1, a, b, rfl, h2, h3⟩)
      · exact ⟨[], x :: u, rfl, (fun c hc => by cases hc), h⟩
      · refine ⟨x :: a, b, rfl, fun c hc => ?_, h3⟩
        rcases List.mem_cons.1 hc with rfl | hc
        · exact h1
        · exact h2 c hc
    · rintro ⟨a, b, hab, h2, h3⟩
      cases a with
      | nil => simp at hab; subst hab; exact .inl h3
      | cons y a =>
        simp at hab
        obtain ⟨rfl, rfl⟩ := hab
        exact .inr ⟨h2 x (by simp), a, b, rfl, fun c hc => h2 c (by simp [hc]), h3⟩
theorem langB_iff (f : Bool) (ps : List GPart) (u : List Nat) : langB f ps u = true ↔ Lang f ps u := by
  induction ps generalizing u with
  | nil => simp [langB, Lang]
  | cons p ps ih =>
    unfold langB
    cases hm : p.many with
    | true =>
      rw [if_pos rfl, starB_iff]
      constructor
      · rintro ⟨a, b, rfl, h1, h2⟩
        exact ⟨a, b, rfl, (oneOk_many hm).2 h1, (ih b).1 h2⟩
      · rintro ⟨a, b, rfl, h1, h2⟩
        exact ⟨a, b, rfl, (oneOk_many hm).1 h1, (ih b).2 h2⟩
    | false =>
      rw [if_neg (by simp)]
      cases u with
      | nil =>
        simp only [oneB, Bool.false_eq_true, false_iff]
        rintro ⟨a, b, hab, h1, _⟩
        obtain ⟨c, rfl, _⟩ := (oneOk_one hm).1 h1
        simp at hab
      | cons x u =>
        simp only [oneB, Bool.and_eq_true, ih]
        constructor
        · rintro ⟨h1, h2⟩
          exact ⟨[x], u, rfl, (oneOk_one hm).2 ⟨x, rfl, h1⟩, h2⟩
        · rintro ⟨a, b, hab, h1, h2⟩
          obtain ⟨c, rfl, hs⟩ := (oneOk_one hm).1 h1
          simp at hab
          obtain ⟨rfl, rfl⟩ := hab
          exact ⟨hs, h2⟩

/-- The part that a character of a pattern stands for. -/
def partOf (c : Nat) : GPart := if c = 42 then ⟨0, true, true⟩ else if c = 63 then ⟨0, true, false⟩ else ⟨c, false, false⟩
theorem partOf_star : partOf 42 = ⟨0, true, true⟩ := rfl
theorem partOf_one : partOf 63 = ⟨0, true, false⟩ := rfl
theorem partOf_char {c : Nat} (h1 : c ≠ 42) (h2 : c ≠ 63) : partOf c = ⟨c, false, false⟩ := by unfold partOf; rw [if_neg h1, if_neg h2]
theorem stands_wild (c : Nat) (m f : Bool) (x : Nat) : standsB ⟨x, true, m⟩ c f = true := rfl

/-- One row of the reference's table. -/
theorem langB_many (f : Bool) (ps : List GPart) (p : GPart) (hm : p.many = true) : langB f (p :: ps) = starB (langB f ps) (standsB p · f) := by
  rw [langB, if_pos hm]
theorem langB_single (f : Bool) (ps : List GPart) (p : GPart) (hm : p.many = false) : langB f (p :: ps) = oneB (langB f ps) (standsB p · f) := by
  rw [langB, if_neg (by simp [hm])]
theorem langB_star_end (f : Bool) (ps : List GPart) (p : GPart) (hm : p.many = true) : langB f (p :: ps) [] = langB f ps [] := by
  rw [langB_many f ps p hm]; rfl
theorem langB_star_cons (f : Bool) (ps : List GPart) (p : GPart) (hm : p.many = true) (c : Nat) (u : List Nat) : langB f (p :: ps) (c :: u) = (langB f ps (c :: u) || (standsB p c f && langB f (p :: ps) u)) := by
  rw [langB_many f ps p hm]; rfl
theorem langB_one_end (f : Bool) (ps : List GPart) (p : GPart) (hm : p.many = false) : langB f (p :: ps) [] = false := by
  rw [langB_single f ps p hm]; rfl
theorem langB_one_cons (f : Bool) (ps : List GPart) (p : GPart) (hm : p.many = false) (c : Nat) (u : List Nat) : langB f (p :: ps) (c :: u) = (standsB p c f && langB f ps u) := by
  rw [langB_single f ps p hm]; rfl
end Go.Proofs.YtlnnimmiifdnnaaDoor
