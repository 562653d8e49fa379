/- Plain: the language of a pattern's parts, and the states that are reached, step by step. -/
import Derived.Test.YtlnnimmiifdnnaaDoorKit
namespace Go.Proofs.YtlnnimmiifdnnaaDoor

/-- A part of a pattern. -/
structure GPart where
  char : Nat
  wild : Bool
  many : Bool
def smallC (c : Nat) : Nat := if 65 ≤ c ∧ c ≤ 90 then c + 32 else c
def standsB (p : GPart) (c : Nat) (f : Bool) : Bool := p.wild || (decide (p.char = c) || (f && decide (smallC p.char = smallC c)))
def oneOk (f : Bool) (p : GPart) (u : List Nat) : Prop := if p.many = true then ∀ c ∈ u, standsB p c f = true else ∃ c, u = [c] ∧ standsB p c f = true
/-- The language of parts. -/
def Lang (f : Bool) : List GPart → List Nat → Prop
  | [], u => u = []
  | p :: ps, u => ∃ a b, u = a ++ b ∧ oneOk f p a ∧ Lang f ps b

theorem oneOk_many {f : Bool} {p : GPart} {u : List Nat} (h : p.many = true) : oneOk f p u ↔ ∀ c ∈ u, standsB p c f = true := by unfold oneOk; rw [if_pos h]
theorem oneOk_one {f : Bool} {p : GPart} {u : List Nat} (h : p.many = false) : oneOk f p u ↔ ∃ c, u = [c] ∧ standsB p c f = true := by unfold oneOk; rw [if_neg (by simp [h])]

theorem lang_app (f : Bool) (ps qs : List GPart) (u : List Nat) : Lang f (ps ++ qs) u ↔ ∃ a b, u = a ++ b ∧ Lang f ps a ∧ Lang f qs b := by
  induction ps generalizing u with
  | nil =>
    constructor
    · intro h; exact ⟨[], u, rfl, rfl, h⟩
    · rintro ⟨a, b, rfl, ha, hb⟩
      obtain rfl : a = [] := ha
      exact hb
  | cons p ps ih =>
    constructor
    · rintro ⟨a, b, rfl, h1, h2⟩
      obtain ⟨c, d, rfl, h3, h4⟩ := (ih b).1 h2
      exact ⟨a ++ c, d, by rw [List.append_assoc], ⟨a, c, rfl, h1, h3⟩, h4⟩
    · rintro ⟨a, b, rfl, ⟨c, d, rfl, h1, h3⟩, h4⟩
      exact ⟨c, d ++ b, by rw [List.append_assoc], h1, (ih _).2 ⟨d, b, rfl, h3, h4⟩⟩
theorem lang_one (f : Bool) (p : GPart) (u : List Nat) : Lang f [p] u ↔ oneOk f p u := by
  constructor
  · rintro ⟨a, b, rfl, h, hb⟩
    obtain rfl : b = [] := hb
    simpa using h
  · intro h; exact ⟨u, [], by simp, h, rfl⟩

/-- State i is reached by characters: the parts ahead of it stand for their beginning, and part i, if it may stand for many, for the rest. -/
def Reached (f : Bool) (ps : List GPart) (u : List Nat) (i : Nat) : Prop :=
  ∃ a b, u = a ++ b ∧ Lang f (ps.take i) a ∧ (b = [] ∨ ∃ p, ps[i]? = some p ∧ p.many = true ∧ ∀ c ∈ b, standsB p c f = true)

theorem take_one {ps : List GPart} {i : Nat} {p : GPart} (h : ps[i]? = some p) : ps.take (i + 1) = ps.take i ++ [p] := by
  obtain ⟨hi, rfl⟩ := List.getElem?_eq_some_iff.1 h
  exact List.take_succ_eq_append_getElem hi

theorem reached_all (f : Bool) (ps : List GPart) (u : List Nat) : Reached f ps u ps.length ↔ Lang f ps u := by
  constructor
  · rintro ⟨a, b, rfl, h, hb⟩
    rw [List.take_length] at h
    rcases hb with rfl | ⟨p, hp, _⟩
    · simpa using h
    · simp at hp
  · intro h; exact ⟨u, [], by simp, by rw [List.take_length]; exact h, .inl rfl⟩

theorem reached_nil_zero (f : Bool) (ps : List GPart) : Reached f ps [] 0 := ⟨[], [], rfl, by simp [Lang], .inl rfl⟩
theorem reached_nil_succ {f : Bool} {ps : List GPart} {i : Nat} {p : GPart} (h : ps[i]? = some p) : Reached f ps [] (i + 1) ↔ (Reached f ps [] i ∧ p.many = true) := by
  constructor
  · rintro ⟨a, b, hab, h1, _⟩
    obtain ⟨rfl, rfl⟩ : a = [] ∧ b = [] := by simpa [eq_comm] using hab
    rw [take_one h, lang_app] at h1
    obtain ⟨c, d, hcd, h2, h3⟩ := h1
    obtain ⟨rfl, rfl⟩ : c = [] ∧ d = [] := by simpa [eq_comm] using hcd
    rw [lang_one] at h3
    cases hm : p.many with
    | true => exact ⟨⟨[], [], rfl, h2, .inl rfl⟩, rfl⟩
    | false =>
      obtain ⟨c, hc, _⟩ := (oneOk_one hm).1 h3
      cases hc
  · rintro ⟨⟨a, b, hab, h1, _⟩, hm⟩
    obtain ⟨rfl, rfl⟩ : a = [] ∧ b = [] := by simpa [eq_comm] using hab
    refine ⟨[], [], rfl, ?_, .inl rfl⟩
    rw [take_one h, lang_app]
    exact ⟨[], [], rfl, h1, (lang_one _ _ _).2 ((oneOk_many hm).2 fun c hc => by cases hc)⟩

/-- What a step reaches by itself. -/
def Stepped (f : Bool) (ps : List GPart) (u : List Nat) (c : Nat) (i : Nat) : Prop :=
  (∃ p, ps[i]? = some p ∧ Reached f ps u i ∧ standsB p c f = true ∧ p.many = true) ∨ (∃ j p, i = j + 1 ∧ ps[j]? = some p ∧ Reached f ps u j ∧ standsB p c f = true ∧ p.many = false)

theorem reached_snoc_of {f : Bool} {ps : List GPart} {u : List Nat} {c i : Nat} (h : Stepped f ps u c i) : Reached f ps (u ++ [c]) i := by
  rcases h with ⟨p, hp, ⟨a, b, rfl, h1, hb⟩, hs, hm⟩ | ⟨j, p, rfl, hp, ⟨a, b, rfl, h1, hb⟩, hs, hm⟩
  · refine ⟨a, b ++ [c], by rw [List.append_assoc], h1, .inr ⟨p, hp, hm, fun x hx => ?_⟩⟩
    rcases List.mem_append.1 hx with hx | hx
    · rcases hb with rfl | ⟨q, hq, _, h2⟩
      · cases hx
      · rw [hp] at hq; cases hq
        exact h2 x hx
    · simp at hx; subst hx; exact hs
  · obtain rfl : b = [] := by
      rcases hb with h | ⟨q, hq, h2, _⟩
      · exact h
      · rw [hp] at hq; cases hq
        rw [hm] at h2; cases h2
    refine ⟨a ++ [c], [], by simp, ?_, .inl rfl⟩
    rw [take_one hp, lang_app]
    exact ⟨a, [c], rfl, h1, (lang_one _ _ _).2 ((oneOk_one hm).2 ⟨c, rfl, hs⟩)⟩
theorem reached_skip {f : Bool} {ps : List GPart} {u : List Nat} {i : Nat} {p : GPart} (hp : ps[i]? = some p) (hm : p.many = true) (h : Reached f ps u i) : Reached f ps u (i + 1) := by
  obtain ⟨a, b, rfl, h1, hb⟩ := h
  refine ⟨a ++ b, [], by simp, ?_, .inl rfl⟩
  rw [take_one hp, lang_app]
  refine ⟨a, b, rfl, h1, (lang_one _ _ _).2 ((oneOk_many hm).2 fun x hx => ?_)⟩
  rcases hb with rfl | ⟨q, hq, _, h2⟩
  · cases hx
  · rw [hp] at hq; cases hq
    exact h2 x hx
theorem snoc_split {u a b : List Nat} {c : Nat} (h : u ++ [c] = a ++ b) (hb : b ≠ []) : ∃ b0, b = b0 ++ [c] ∧ u = a ++ b0 := by
  obtain ⟨b0, x, rfl⟩ : ∃ b0 x, b = b0 ++ [x] := ⟨b.dropLast, b.getLast hb, (List.dropLast_concat_getLast hb).symm⟩
  rw [← List.append_assoc] at h
  obtain ⟨h1, h2⟩ := List.append_inj' h rfl
  cases h2
  exact ⟨b0, rfl, h1⟩
theorem reached_snoc {f : Bool} {ps : List GPart} {u : List Nat} {c i : Nat} (hi : i ≤ ps.length) (h : Reached f ps (u ++ [c]) i) :
    Stepped f ps u c i ∨ ∃ j p, i = j + 1 ∧ ps[j]? = some p ∧ p.many = true ∧ Reached f ps (u ++ [c]) j := by
  obtain ⟨a, b, hab, h1, hb⟩ := h
  by_cases hbn : b = []
  · subst hbn
    rw [List.append_nil] at hab
    subst hab
    cases i with
    | zero =>
      rw [List.take_zero] at h1
      exact absurd h1 (by simp [Lang])
    | succ j =>
      have hp : ps[j]? = some (ps[j]'(by omega)) := List.getElem?_eq_getElem (by omega)
      rw [take_one hp, lang_app] at h1
      obtain ⟨a', b', hab, h2, h3⟩ := h1
      rw [lang_one] at h3
      cases hm : (ps[j]'(by omega)).many with
      | true => exact .inr ⟨j, _, rfl, hp, hm, a', b', hab, h2, .inr ⟨_, hp, hm, (oneOk_many hm).1 h3⟩⟩
      | false =>
        obtain ⟨x, rfl, hs⟩ := (oneOk_one hm).1 h3
        obtain ⟨rfl, h4⟩ := List.append_inj' hab rfl
        cases h4
        exact .inl (.inr ⟨j, _, rfl, hp, ⟨u, [], by simp, h2, .inl rfl⟩, hs, hm⟩)
  · rcases hb with hb | ⟨p, hp, hm, hs⟩
    · exact absurd hb hbn
    · obtain ⟨b0, rfl, rfl⟩ := snoc_split hab hbn
      exact .inl (.inl ⟨p, hp, ⟨a, b0, rfl, h1, .inr ⟨p, hp, hm, fun x hx => hs x (by simp [hx])⟩⟩, hs c (by simp), hm⟩)
theorem reached_snoc_zero (f : Bool) (ps : List GPart) (u : List Nat) (c : Nat) : Reached f ps (u ++ [c]) 0 ↔ Stepped f ps u c 0 := by
  constructor
  · intro h
    rcases reached_snoc (Nat.zero_le _) h with h | ⟨j, p, e, _⟩
    · exact h
    · cases e
  · exact reached_snoc_of
theorem reached_snoc_succ {f : Bool} {ps : List GPart} {u : List Nat} {c i : Nat} {p : GPart} (hp : ps[i]? = some p) : Reached f ps (u ++ [c]) (i + 1) ↔ (Stepped f ps u c (i + 1) ∨ (Reached f ps (u ++ [c]) i ∧ p.many = true)) := by
  have hi : i < ps.length := (List.getElem?_eq_some_iff.1 hp).1
  constructor
  · intro h
    rcases reached_snoc (by omega) h with h | ⟨j, q, e, hq, hm, h⟩
    · exact .inl h
    · obtain rfl : i = j := by omega
      rw [hp] at hq; cases hq
      exact .inr ⟨h, hm⟩
  · rintro (h | ⟨h, hm⟩)
    · exact reached_snoc_of h
    · exact reached_skip hp hm h
end Go.Proofs.YtlnnimmiifdnnaaDoor
