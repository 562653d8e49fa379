/- Plain: the states that are reached, as the code's rows have them. -/
import Derived.Test.YtibhohpamnpkcaaGreatDoorRouteOrderM20
import Derived.Test.YtibhohpamnpkcaaGreatDoorRouteOrderM10
import Derived.Test.YtibhohpamnpkcaaGreatDoorRouteOrderM6
import Derived.Test.YtibhohpamnpkcaaGreatDoorRouteOrderM5

namespace Go.Proofs.YtibhohpamnpkcaaGreatDoor
open Classical

noncomputable def rB (f : Bool) (ps : List GPart) (u : List Nat) (i : Nat) : Bool := decide (Reached f ps u i)
theorem rB_iff {f : Bool} {ps : List GPart} {u : List Nat} {i : Nat} : rB f ps u i = true ↔ Reached f ps u i := by unfold rB; exact decide_eq_true_iff
def manyAt (ps : List GPart) (i : Nat) : Bool := match ps[i]? with
  | some p => p.many
  | none => false
theorem manyAt_of {ps : List GPart} {i : Nat} {p : GPart} (h : ps[i]? = some p) : manyAt ps i = p.many := by unfold manyAt; rw [h]
/-- The states behind those that may stand for nothing. -/
def skipF (ps : List GPart) (f0 : Nat → Bool) : Nat → Bool
  | 0 => f0 0
  | i + 1 => f0 (i + 1) || (skipF ps f0 i && manyAt ps i)
theorem skipF_succ (ps : List GPart) (f0 : Nat → Bool) (i : Nat) : skipF ps f0 (i + 1) = (f0 (i + 1) || (skipF ps f0 i && manyAt ps i)) := rfl
def startF (i : Nat) : Bool := decide (i = 0)

theorem skip_start (f : Bool) (ps : List GPart) : ∀ i, i ≤ ps.length → skipF ps startF i = rB f ps [] i := by
  intro i
  induction i with
  | zero => intro _; exact (rB_iff.2 (reached_nil_zero f ps)).symm
  | succ i ih =>
    intro hi
    have hp : ps[i]? = some (ps[i]'(by omega)) := List.getElem?_eq_getElem (by omega)
    rw [skipF_succ, ih (by omega), manyAt_of hp, Bool.eq_iff_iff, rB_iff, reached_nil_succ hp]
    simp [startF, rB_iff]

def Con (f : Bool) (ps : List GPart) (u : List Nat) (c j m : Nat) : Prop := ∃ p, ps[j]? = some p ∧ Reached f ps u j ∧ standsB p c f = true ∧ ((p.many = true ∧ m = j) ∨ (p.many = false ∧ m = j + 1))
/-- What a step has reached, of the first so many parts. -/
noncomputable def stepTo (f : Bool) (ps : List GPart) (u : List Nat) (c i m : Nat) : Bool := decide (∃ j, j < i ∧ Con f ps u c j m)
theorem stepTo_iff {f : Bool} {ps : List GPart} {u : List Nat} {c i m : Nat} : stepTo f ps u c i m = true ↔ ∃ j, j < i ∧ Con f ps u c j m := by unfold stepTo; exact decide_eq_true_iff
theorem stepTo_zero (f : Bool) (ps : List GPart) (u : List Nat) (c m : Nat) : stepTo f ps u c 0 m = false := by
  rw [Bool.eq_false_iff]; intro h
  obtain ⟨j, hj, _⟩ := stepTo_iff.1 h
  omega
theorem stepTo_succ {f : Bool} {ps : List GPart} {u : List Nat} {c i m : Nat} : stepTo f ps u c (i + 1) m = true ↔ (stepTo f ps u c i m = true ∨ Con f ps u c i m) := by
  rw [stepTo_iff, stepTo_iff]
  constructor
  · rintro ⟨j, hj, h⟩
    by_cases e : j = i
    · exact .inr (e ▸ h)
    · exact .inl ⟨j, by omega, h⟩
  · rintro (⟨j, hj, h⟩ | h)
    · exact ⟨j, by omega, h⟩
    · exact ⟨i, by omega, h⟩
theorem con_of {f : Bool} {ps : List GPart} {u : List Nat} {c i m : Nat} {p : GPart} (hp : ps[i]? = some p) : Con f ps u c i m ↔ (rB f ps u i = true ∧ standsB p c f = true ∧ ((p.many = true ∧ m = i) ∨ (p.many = false ∧ m = i + 1))) := by
  unfold Con
  rw [rB_iff]
  constructor
  · rintro ⟨q, hq, h1, h2, h3⟩
    rw [hp] at hq; cases hq
    exact ⟨h1, h2, h3⟩
  · rintro ⟨h1, h2, h3⟩
    exact ⟨p, hp, h1, h2, h3⟩
theorem step_none {f : Bool} {ps : List GPart} {u : List Nat} {c i : Nat} {p : GPart} (hp : ps[i]? = some p) (h : rB f ps u i = false ∨ standsB p c f = false) (m : Nat) : stepTo f ps u c (i + 1) m = stepTo f ps u c i m := by
  rw [Bool.eq_iff_iff, stepTo_succ, con_of hp]
  rcases h with h | h <;> simp [h]
theorem step_many {f : Bool} {ps : List GPart} {u : List Nat} {c i : Nat} {p : GPart} (hp : ps[i]? = some p) (h1 : rB f ps u i = true) (h2 : standsB p c f = true) (h3 : p.many = true) (m : Nat) : stepTo f ps u c (i + 1) m = if m = i then true else stepTo f ps u c i m := by
  rw [Bool.eq_iff_iff, stepTo_succ, con_of hp]
  by_cases hm : m = i <;> simp [h1, h2, h3, hm]
theorem step_one {f : Bool} {ps : List GPart} {u : List Nat} {c i : Nat} {p : GPart} (hp : ps[i]? = some p) (h1 : rB f ps u i = true) (h2 : standsB p c f = true) (h3 : p.many = false) (m : Nat) : stepTo f ps u c (i + 1) m = if m = i + 1 then true else stepTo f ps u c i m := by
  rw [Bool.eq_iff_iff, stepTo_succ, con_of hp]
  by_cases hm : m = i + 1 <;> simp [h1, h2, h3, hm]
theorem stepTo_all {f : Bool} {ps : List GPart} {u : List Nat} {c m : Nat} : stepTo f ps u c ps.length m = true ↔ Stepped f ps u c m := by
  rw [stepTo_iff]
  constructor
  · rintro ⟨j, hj, p, hp, h1, h2, (⟨h3, rfl⟩ | ⟨h3, rfl⟩)⟩
    · exact .inl ⟨p, hp, h1, h2, h3⟩
    · exact .inr ⟨j, p, rfl, hp, h1, h2, h3⟩
  · rintro (⟨p, hp, h1, h2, h3⟩ | ⟨j, p, rfl, hp, h1, h2, h3⟩)
    · exact ⟨m, (List.getElem?_eq_some_iff.1 hp).1, p, hp, h1, h2, .inl ⟨h3, rfl⟩⟩
    · exact ⟨j, (List.getElem?_eq_some_iff.1 hp).1, p, hp, h1, h2, .inr ⟨h3, rfl⟩⟩
theorem skip_step (f : Bool) (ps : List GPart) (u : List Nat) (c : Nat) : ∀ i, i ≤ ps.length → skipF ps (stepTo f ps u c ps.length) i = rB f ps (u ++ [c]) i := by
  intro i
  induction i with
  | zero => intro _; rw [Bool.eq_iff_iff, rB_iff, reached_snoc_zero, ← stepTo_all]; rfl
  | succ i ih =>
    intro hi
    have hp : ps[i]? = some (ps[i]'(by omega)) := List.getElem?_eq_getElem (by omega)
    rw [skipF_succ, ih (by omega), manyAt_of hp, Bool.eq_iff_iff, rB_iff, reached_snoc_succ hp, ← stepTo_all, ← rB_iff, Bool.or_eq_true, Bool.and_eq_true]
theorem rB_all (f : Bool) (ps : List GPart) (u : List Nat) : rB f ps u ps.length = langB f ps u := by
  rw [Bool.eq_iff_iff, rB_iff, reached_all, langB_iff]
end Go.Proofs.YtibhohpamnpkcaaGreatDoor

/- Plain: all places of a text at once through the states of a pattern. -/
namespace Go.Proofs.YtibhohpamnpkcaaGreatDoor
open Classical

/-- The characters from one place to another. -/
def segL (cs : List Nat) (i j : Nat) : List Nat := (cs.take j).drop i
theorem seg_self (cs : List Nat) (i : Nat) : segL cs i i = [] := by
  unfold segL
  apply List.drop_eq_nil_of_le
  rw [List.length_take]; omega
theorem seg_snoc {cs : List Nat} {i j c : Nat} (h : i ≤ j) (hc : cs[j]? = some c) : segL cs i (j + 1) = segL cs i j ++ [c] := by
  obtain ⟨hj, rfl⟩ := List.getElem?_eq_some_iff.1 hc
  unfold segL
  rw [List.take_succ_eq_append_getElem hj, List.drop_append_of_le_length (by rw [List.length_take]; omega)]
theorem seg_all (cs : List Nat) : segL cs 0 cs.length = cs := by unfold segL; simp
theorem skip_iff (ps : List GPart) (g : Nat → Bool) : ∀ k, skipF ps g k = true ↔ ∃ j, j ≤ k ∧ g j = true ∧ ∀ l, j ≤ l → l < k → manyAt ps l = true := by
  intro k
  induction k with
  | zero =>
    constructor
    · intro h; exact ⟨0, Nat.le_refl _, h, fun l _ hl => by omega⟩
    · rintro ⟨j, hj, h, _⟩
      obtain rfl : j = 0 := by omega
      exact h
  | succ k ih =>
    rw [skipF_succ, Bool.or_eq_true, Bool.and_eq_true, ih]
    constructor
    · rintro (h | ⟨⟨j, hj, h, hl⟩, hm⟩)
      · exact ⟨k + 1, Nat.le_refl _, h, fun l h1 h2 => by omega⟩
      · refine ⟨j, by omega, h, fun l h1 h2 => ?_⟩
        by_cases e : l = k
        · exact e ▸ hm
        · exact hl l h1 (by omega)
    · rintro ⟨j, hj, h, hl⟩
      by_cases e : j = k + 1
      · exact .inl (e ▸ h)
      · exact .inr ⟨⟨j, by omega, h, fun l h1 h2 => hl l h1 (by omega)⟩, hl k (by omega) (by omega)⟩
section
variable (f : Bool) (ps : List GPart) (cs : List Nat) (fr : Nat → Bool)
/-- State k is reached at place i from one of the places ahead that were reached. -/
noncomputable def nS (i k : Nat) : Bool := decide (∃ i0, i0 ≤ i ∧ fr i0 = true ∧ Reached f ps (segL cs i0 i) k)
/-- What a character's step has reached, of the first n parts. -/
noncomputable def nP (i c n m : Nat) : Bool := decide (∃ i0, i0 ≤ i ∧ fr i0 = true ∧ ∃ j, j < n ∧ Con f ps (segL cs i0 i) c j m)
/-- The states ahead of place i. -/
noncomputable def nA : Nat → Nat → Bool
  | 0, _ => false
  | i + 1, m => match cs[i]? with
    | some c => nP f ps cs fr i c ps.length m
    | none => false
variable {f ps cs fr}
theorem nS_iff {i k : Nat} : nS f ps cs fr i k = true ↔ ∃ i0, i0 ≤ i ∧ fr i0 = true ∧ Reached f ps (segL cs i0 i) k := by unfold nS; exact decide_eq_true_iff
theorem nP_iff {i c n m : Nat} : nP f ps cs fr i c n m = true ↔ ∃ i0, i0 ≤ i ∧ fr i0 = true ∧ ∃ j, j < n ∧ Con f ps (segL cs i0 i) c j m := by unfold nP; exact decide_eq_true_iff
theorem nP_zero (i c m : Nat) : nP f ps cs fr i c 0 m = false := by
  rw [Bool.eq_false_iff]; intro h
  obtain ⟨_, _, _, j, hj, _⟩ := nP_iff.1 h
  omega
theorem nP_succ {i c n m : Nat} {p : GPart} (hp : ps[n]? = some p) : nP f ps cs fr i c (n + 1) m = true ↔ (nP f ps cs fr i c n m = true ∨ (nS f ps cs fr i n = true ∧ standsB p c f = true ∧ ((p.many = true ∧ m = n) ∨ (p.many = false ∧ m = n + 1)))) := by
  rw [nP_iff, nP_iff, nS_iff]
  constructor
  · rintro ⟨i0, h0, h1, j, hj, hc⟩
    by_cases e : j = n
    · subst e
      obtain ⟨hr, h2, h3⟩ := (con_of hp).1 hc
      exact .inr ⟨⟨i0, h0, h1, rB_iff.1 hr⟩, h2, h3⟩
    · exact .inl ⟨i0, h0, h1, j, by omega, hc⟩
  · rintro (⟨i0, h0, h1, j, hj, hc⟩ | ⟨⟨i0, h0, h1, hr⟩, h2, h3⟩)
    · exact ⟨i0, h0, h1, j, by omega, hc⟩
    · exact ⟨i0, h0, h1, n, by omega, (con_of hp).2 ⟨rB_iff.2 hr, h2, h3⟩⟩
theorem nP_none {i c n : Nat} {p : GPart} (hp : ps[n]? = some p) (h : nS f ps cs fr i n = false ∨ standsB p c f = false) (m : Nat) : nP f ps cs fr i c (n + 1) m = nP f ps cs fr i c n m := by
  rw [Bool.eq_iff_iff, nP_succ hp]
  rcases h with h | h <;> simp [h]
theorem nP_many {i c n : Nat} {p : GPart} (hp : ps[n]? = some p) (h1 : nS f ps cs fr i n = true) (h2 : standsB p c f = true) (h3 : p.many = true) (m : Nat) : nP f ps cs fr i c (n + 1) m = if m = n then true else nP f ps cs fr i c n m := by
  rw [Bool.eq_iff_iff, nP_succ hp]
  by_cases hm : m = n <;> simp [h1, h2, h3, hm]
theorem nP_one {i c n : Nat} {p : GPart} (hp : ps[n]? = some p) (h1 : nS f ps cs fr i n = true) (h2 : standsB p c f = true) (h3 : p.many = false) (m : Nat) : nP f ps cs fr i c (n + 1) m = if m = n + 1 then true else nP f ps cs fr i c n m := by
  rw [Bool.eq_iff_iff, nP_succ hp]
  by_cases hm : m = n + 1 <;> simp [h1, h2, h3, hm]
theorem nA_iff {i m : Nat} : nA f ps cs fr i m = true ↔ ∃ i0 c, i0 < i ∧ cs[i - 1]? = some c ∧ fr i0 = true ∧ stepTo f ps (segL cs i0 (i - 1)) c ps.length m = true := by
  cases i with
  | zero => simp [nA]
  | succ i =>
    simp only [nA, Nat.add_sub_cancel]
    cases hc : cs[i]? with
    | none => simp
    | some c =>
      simp only [nP_iff]
      constructor
      · rintro ⟨i0, h0, h1, h⟩
        exact ⟨i0, c, by omega, rfl, h1, stepTo_iff.2 h⟩
      · rintro ⟨i0, c', h0, hc', h1, h⟩
        cases hc'
        exact ⟨i0, by omega, h1, stepTo_iff.1 h⟩
/-- The states at a place: those ahead of it, the beginning, if the place was reached, and what may stand for nothing. -/
theorem nS_skip {i : Nat} (hi : i ≤ cs.length) {k : Nat} (hk : k ≤ ps.length) : skipF ps (fun m => nA f ps cs fr i m || (decide (m = 0) && fr i)) k = nS f ps cs fr i k := by
  rw [Bool.eq_iff_iff, skip_iff, nS_iff]
  constructor
  · rintro ⟨j, hj, h, hl⟩
    rw [Bool.or_eq_true, Bool.and_eq_true, decide_eq_true_eq] at h
    rcases h with h | ⟨rfl, h⟩
    · obtain ⟨i0, c, h0, hc, h1, h2⟩ := nA_iff.1 h
      have h3 : skipF ps (stepTo f ps (segL cs i0 (i - 1)) c ps.length) k = true := (skip_iff _ _ _).2 ⟨j, hj, h2, hl⟩
      rw [skip_step f ps _ c k hk, rB_iff, ← seg_snoc (by omega) hc, show i - 1 + 1 = i by omega] at h3
      exact ⟨i0, by omega, h1, h3⟩
    · have h3 : skipF ps startF k = true := (skip_iff _ _ _).2 ⟨0, hj, rfl, hl⟩
      rw [skip_start f ps k hk, rB_iff, ← seg_self cs i] at h3
      exact ⟨i, Nat.le_refl _, h, h3⟩
  · rintro ⟨i0, h0, h1, h2⟩
    by_cases e : i0 = i
    · subst e
      rw [seg_self, ← rB_iff, ← skip_start f ps k hk, skip_iff] at h2
      obtain ⟨j, hj, h3, hl⟩ := h2
      have hj0 : j = 0 := by simpa [startF] using h3
      exact ⟨j, hj, by simp [hj0, h1], hl⟩
    · have hc : cs[i - 1]? = some (cs[i - 1]'(by omega)) := List.getElem?_eq_getElem (by omega)
      rw [show i = i - 1 + 1 by omega, seg_snoc (by omega) hc, ← rB_iff, ← skip_step f ps _ _ k hk, skip_iff] at h2
      obtain ⟨j, hj, h3, hl⟩ := h2
      exact ⟨j, hj, by rw [Bool.or_eq_true]; exact .inl (nA_iff.2 ⟨i0, _, by omega, hc, h1, h3⟩), hl⟩
/-- Place i is reached by a text in the pattern's language. -/
theorem nS_end {i : Nat} : nS f ps cs fr i ps.length = true ↔ ∃ i0, i0 ≤ i ∧ fr i0 = true ∧ langB f ps (segL cs i0 i) = true := by
  rw [nS_iff]
  constructor
  · rintro ⟨i0, h0, h1, h2⟩; exact ⟨i0, h0, h1, by rw [← rB_all]; exact rB_iff.2 h2⟩
  · rintro ⟨i0, h0, h1, h2⟩; exact ⟨i0, h0, h1, by rw [← rB_all] at h2; exact rB_iff.1 h2⟩
end
end Go.Proofs.YtibhohpamnpkcaaGreatDoor

/- Plain facts on characters: a byte below 128 ends whatever stands ahead of it; characters below 128 are bytes. -/
namespace Go.Proofs.YtibhohpamnpkcaaGreatDoor

theorem putN_cont {n m x : Nat} (hm : 1 ≤ m) (h : (putN n)[m]? = some x) : 128 ≤ x := by
  unfold putN at h
  repeat' split at h
  all_goals
    match m, hm, h with
    | 1, _, h => simp at h <;> omega
    | 2, _, h => simp at h <;> omega
    | 3, _, h => simp at h <;> omega
    | m + 4, _, h => simp at h
theorem firstN_get {k b0 b1 b2 b3 m : Nat} (hm : m < k) (hk : k ≤ 4) : (firstN k b0 b1 b2 b3)[m]? = some (if m = 0 then b0 else if m = 1 then b1 else if m = 2 then b2 else b3) := by
  unfold firstN
  rw [List.getElem?_take, if_pos hm]
  match m, (by omega : m < 4) with
  | 0, _ => rfl
  | 1, _ => rfl
  | 2, _ => rfl
  | 3, _ => rfl
/-- What isn't whole ahead of a byte below 128 isn't whole with it. -/
theorem decB_cut {s t : ByteArray} {i i' : Nat} (hi : i < s.size) (hlt : s.size - i < t.size - i') (hb : ∀ j, j < s.size - i → byteAt t (i' + j) = byteAt s (i + j))
    (hc : (byteAt t (i' + (s.size - i))).toNat < 128) (ho : okB t i' = true) : okB s i = true := by
  have ho' : decB t i' ≠ (65533, 1) := of_decide_eq_true ho
  obtain ⟨k, hk1, hk4, hkn, hr, hp⟩ := dec_hit (n := t.size - i') (by omega) (byteAt t i').toNat_lt (byteAt t (i' + 1)).toNat_lt (byteAt t (i' + 2)).toNat_lt (byteAt t (i' + 3)).toNat_lt ho'
  by_cases hkm : k ≤ s.size - i
  · have g := guessZ_agree hk1 hk4 (b0 := (byteAt s i).toNat) (b1 := (byteAt s (i + 1)).toNat) (b2 := (byteAt s (i + 2)).toNat) (b3 := (byteAt s (i + 3)).toNat)
      (c0 := (byteAt t i').toNat) (c1 := (byteAt t (i' + 1)).toNat) (c2 := (byteAt t (i' + 2)).toNat) (c3 := (byteAt t (i' + 3)).toNat)
      (by have := hb 0 (by omega); simpa using (congrArg UInt8.toNat this).symm) (fun h => (congrArg UInt8.toNat (hb 1 (by omega))).symm) (fun h => (congrArg UInt8.toNat (hb 2 (by omega))).symm) (fun h => (congrArg UInt8.toNat (hb 3 (by omega))).symm)
    rw [← g.1] at hr hp
    rw [← g.2] at hp
    obtain ⟨e2, n2⟩ := hit_dec (n := s.size - i) hk1 hk4 hkm (byteAt s i).toNat_lt (byteAt s (i + 1)).toNat_lt (byteAt s (i + 2)).toNat_lt (byteAt s (i + 3)).toNat_lt hr hp
    unfold okB decB
    rw [e2]
    exact decide_eq_true n2
  · exfalso
    have hm : s.size - i < k := by omega
    have h1 := firstN_get (b0 := (byteAt t i').toNat) (b1 := (byteAt t (i' + 1)).toNat) (b2 := (byteAt t (i' + 2)).toNat) (b3 := (byteAt t (i' + 3)).toNat) hm hk4
    rw [← hp] at h1
    have h2 := putN_cont (by omega) h1
    have hx : s.size - i = 1 ∨ s.size - i = 2 ∨ s.size - i = 3 := by omega
    rcases hx with hx | hx | hx <;> rw [hx] at h2 hc <;> simp at h2 <;> omega

theorem chrs_first_bad (a b : ByteArray) (hb0 : 0 < b.size) (hb : (byteAt b 0).toNat < 128) : ∀ (f i k : Nat) (l : List Nat), a.size - i ≤ f → i ≤ a.size → (chrsFrom a f i).2 = some k → Reach (a ++ b) l i → chrs (a ++ b) = (l ++ (chrsFrom a f i).1, some k) := by
  intro f
  induction f with
  | zero =>
    intro i k l hf hi hn hr
    simp [chrsFrom] at hn
  | succ f ih =>
    intro i k l hf hi hn hr
    unfold chrsFrom at hn ⊢
    by_cases hlt : i < a.size
    · rw [if_pos hlt] at hn ⊢
      by_cases ho : okB a i = true
      · rw [if_pos ho] at hn ⊢
        have hd := decB_bounds a i hlt
        have hm := decB_more (s := a) (t := a ++ b) (i := i) (i' := i) hlt (by rw [size_app]; omega) ho (fun j hj => by rw [byteAt_app, if_pos (by omega)])
        have hs := hr.step (by rw [size_app]; omega) hm.2
        rw [hm.1] at hs
        have := ih (i + (decB a i).2) k _ (by omega) (by omega) hn hs
        simpa using this
      · rw [if_neg ho] at hn ⊢
        obtain rfl : i = k := by simpa using hn
        have hno : okB (a ++ b) i = false := by
          rw [Bool.eq_false_iff]
          intro h
          exact ho (decB_cut (s := a) (t := a ++ b) (i := i) (i' := i) hlt (by rw [size_app]; omega) (fun j hj => by rw [byteAt_app, if_pos (by omega)]) (by rw [byteAt_app, if_neg (by omega), show i + (a.size - i) - a.size = 0 by omega]; exact hb) h)
        rw [hr.bad (by rw [size_app]; omega) hno]
        simp
    · rw [if_neg hlt] at hn
      simp at hn
theorem chrs_join_bad (a b : ByteArray) (k : Nat) (ha : (chrs a).2 = some k) (hb0 : 0 < b.size) (hb : (byteAt b 0).toNat < 128) : chrs (a ++ b) = ((chrs a).1, some k) := by
  have := chrs_first_bad a b hb0 hb a.size 0 k [] (by omega) (by omega) ha (Reach.zero _)
  rw [List.nil_append] at this
  exact this
theorem chrs_byte (c : UInt8) (h : c.toNat < 128) : chrs ⟨#[c]⟩ = ([c.toNat], none) := by
  have hb : byteAt (⟨#[c]⟩ : ByteArray) 0 = c := rfl
  have hs : (⟨#[c]⟩ : ByteArray).size = 1 := rfl
  have hd : decB ⟨#[c]⟩ 0 = (c.toNat, 1) := by unfold decB Lib.decodeN; rw [hb, if_pos h]
  have ho : okB ⟨#[c]⟩ 0 = true := by unfold okB; rw [hd]; refine decide_eq_true (fun e => ?_); simp at e; omega
  unfold chrs
  rw [hs]
  unfold chrsFrom
  rw [hs, if_pos (by omega), if_pos ho, hd]
  rfl

/-- Of a row of bytes each character below 128 is a byte. -/
theorem dec_small {n b0 b1 b2 b3 : Nat} (h : (Lib.decodeN n b0 b1 b2 b3).1 < 128) : Lib.decodeN n b0 b1 b2 b3 = (b0, 1) := by
  unfold Lib.decodeN at h ⊢
  repeat' split at h
  all_goals first | (exfalso; simp at h; done) | (exfalso; simp at h; omega) | skip
  rw [if_pos (by assumption)]
theorem chrs_small (s : ByteArray) : ∀ (f i : Nat) (c : Nat), c ∈ (chrsFrom s f i).1 → c < 128 → ∃ j, j < s.size ∧ i ≤ j ∧ (byteAt s j).toNat = c := by
  intro f
  induction f with
  | zero => intro i c h; simp [chrsFrom] at h
  | succ f ih =>
    intro i c h hc
    unfold chrsFrom at h
    split at h
    · rename_i hi
      have hd := decB_bounds s i hi
      split at h
      · rcases List.mem_cons.1 h with h | h
        · have h2 : (decB s i).1 < 128 := by omega
          have h3 := dec_small h2
          refine ⟨i, hi, Nat.le_refl _, ?_⟩
          rw [h]
          change decB s i = _ at h3
          rw [h3]
        · obtain ⟨j, h1, h2, h3⟩ := ih _ _ h hc
          exact ⟨j, h1, by omega, h3⟩
      · cases h
    · cases h
end Go.Proofs.YtibhohpamnpkcaaGreatDoor

/- Plain: patterns with stars and question marks: what the statements say of them. -/
namespace Go.Proofs.YtibhohpamnpkcaaGreatDoor

def patP (p : ByteArray) : List GPart := (chrs p).1.map partOf
def okP (p : ByteArray) : Bool := decide (p.size ≤ 1024) && (chrs p).2.isNone
/-- Is a text in a pattern's language? -/
def matchB (p s : ByteArray) (f : Bool) : Bool := okP p && ((chrs s).2.isNone && langB f (patP p) (chrs s).1)
def signB (c : UInt8) : Bool := decide (c.toNat = 42) || decide (c.toNat = 63)
/-- What is ahead of the first sign, from a place on. -/
def leadFrom (p : ByteArray) : Nat → Nat → Nat
  | 0, i => i
  | f + 1, i => if i < p.size then (if signB (byteAt p i) = true then i else leadFrom p f (i + 1)) else i
def leadN (p : ByteArray) : Nat := leadFrom p p.size 0
def leadS (p : ByteArray) : ByteArray := p.extract 0 (leadN p)
def leastN (p : ByteArray) : Nat := if okP p = true then ((chrs p).1.filter fun c => decide (c ≠ 42)).length else 0

theorem leadFrom_spec (p : ByteArray) : ∀ f i, p.size - i ≤ f → i ≤ p.size → i ≤ leadFrom p f i ∧ leadFrom p f i ≤ p.size ∧ (∀ j, i ≤ j → j < leadFrom p f i → signB (byteAt p j) = false) ∧ (leadFrom p f i < p.size → signB (byteAt p (leadFrom p f i)) = true) := by
  intro f
  induction f with
  | zero =>
    intro i hf hi
    obtain rfl : i = p.size := by omega
    exact ⟨Nat.le_refl _, Nat.le_refl _, fun j h1 h2 => by unfold leadFrom at h2; omega, fun h => by unfold leadFrom at h; omega⟩
  | succ f ih =>
    intro i hf hi
    unfold leadFrom
    by_cases hlt : i < p.size
    · rw [if_pos hlt]
      by_cases hs : signB (byteAt p i) = true
      · rw [if_pos hs]
        exact ⟨Nat.le_refl _, hi, fun j h1 h2 => by omega, fun _ => hs⟩
      · rw [if_neg hs]
        obtain ⟨h1, h2, h3, h4⟩ := ih (i + 1) (by omega) (by omega)
        refine ⟨by omega, h2, fun j h5 h6 => ?_, h4⟩
        by_cases hj : j = i
        · rw [hj]; simpa using hs
        · exact h3 j (by omega) h6
    · rw [if_neg hlt]
      exact ⟨Nat.le_refl _, hi, fun j h1 h2 => by omega, fun h => absurd h hlt⟩
theorem leadN_spec (p : ByteArray) : leadN p ≤ p.size ∧ (∀ j, j < leadN p → signB (byteAt p j) = false) ∧ (leadN p < p.size → signB (byteAt p (leadN p)) = true) := by
  obtain ⟨_, h2, h3, h4⟩ := leadFrom_spec p p.size 0 (by omega) (by omega)
  exact ⟨h2, fun j hj => h3 j (Nat.zero_le _) hj, h4⟩
theorem leadN_is {p : ByteArray} {n : Nat} (h1 : n ≤ p.size) (h2 : ∀ j, j < n → signB (byteAt p j) = false) (h3 : n < p.size → signB (byteAt p n) = true) : leadN p = n := by
  obtain ⟨k1, k2, k3⟩ := leadN_spec p
  rcases Nat.lt_trichotomy (leadN p) n with h | h | h
  · have := k3 (by omega)
    rw [h2 _ h] at this; cases this
  · exact h
  · have := k2 n h
    rw [h3 (by omega)] at this; cases this

theorem matchB_iff (p s : ByteArray) (f : Bool) : matchB p s f = true ↔ p.size ≤ 1024 ∧ (chrs p).2 = none ∧ (chrs s).2 = none ∧ Lang f (patP p) (chrs s).1 := by
  unfold matchB okP
  simp only [Bool.and_eq_true, decide_eq_true_eq, Option.isNone_iff_eq_none, langB_iff]
  exact ⟨fun ⟨⟨a, b⟩, c, d⟩ => ⟨a, b, c, d⟩, fun ⟨a, b, c, d⟩ => ⟨⟨a, b⟩, c, d⟩⟩

theorem star_star (f : Bool) (u : List Nat) : Lang f [⟨0, true, true⟩, ⟨0, true, true⟩] u ↔ Lang f [⟨0, true, true⟩] u := by
  have h1 : ∀ v, oneOk f ⟨0, true, true⟩ v := fun v => (oneOk_many rfl).2 fun c _ => rfl
  constructor
  · intro _; exact (lang_one _ _ _).2 (h1 _)
  · intro _; exact ⟨[], u, rfl, h1 _, (lang_one _ _ _).2 (h1 _)⟩
theorem lang_star (f : Bool) (u : List Nat) : Lang f [⟨0, true, true⟩] u := (lang_one _ _ _).2 ((oneOk_many rfl).2 fun c _ => rfl)
theorem lang_double (f : Bool) (a b : List GPart) (u : List Nat) : Lang f (a ++ [⟨0, true, true⟩] ++ ([⟨0, true, true⟩] ++ b)) u ↔ Lang f (a ++ ([⟨0, true, true⟩] ++ b)) u := by
  rw [List.append_assoc, ← List.append_assoc [_] [_] b, lang_app, lang_app]
  constructor
  · rintro ⟨x, y, e, h1, h2⟩
    refine ⟨x, y, e, h1, ?_⟩
    rw [lang_app] at h2 ⊢
    obtain ⟨c, d, e, h3, h4⟩ := h2
    exact ⟨c, d, e, (star_star f c).1 h3, h4⟩
  · rintro ⟨x, y, e, h1, h2⟩
    refine ⟨x, y, e, h1, ?_⟩
    rw [lang_app] at h2 ⊢
    obtain ⟨c, d, e, h3, h4⟩ := h2
    exact ⟨c, d, e, (star_star f c).2 h3, h4⟩

def starS : ByteArray := ⟨#[42]⟩
theorem chrs_star : chrs starS = ([42], none) := chrs_byte 42 (by decide)
theorem extract_split (p : ByteArray) (i : Nat) (hi : i ≤ p.size) : p.extract 0 i ++ p.extract i p.size = p := by
  apply ByteArray.ext
  apply Array.ext'
  rw [ByteArray.data_append, Array.toList_append, Lib.extract_data, Lib.extract_data]
  have hl : p.data.toList.length = p.size := rfl
  simp
  rw [List.take_of_length_le (l := List.drop i _) (by simp)]
  exact List.take_append_drop i p.data.toList
theorem extract_size (p : ByteArray) (i j : Nat) (hij : i ≤ j) (hj : j ≤ p.size) : (p.extract i j).size = j - i := by
  rw [ByteArray.size_extract]; omega
theorem byteAt_ext (p : ByteArray) (i j k : Nat) (hj : j ≤ p.size) (hk : i + k < j) : byteAt (p.extract i j) k = byteAt p (i + k) := by
  unfold byteAt
  rw [Lib.extract_data]
  have hl : p.data.toList.length = p.size := rfl
  simp only [List.getD, List.getElem?_take, List.getElem?_drop]
  rw [if_pos (by omega)]

/-- A text that begins with a byte below 128: that character is its first one. -/
theorem chrs_head (d : ByteArray) (c : UInt8) (hd : 0 < d.size) (h0 : byteAt d 0 = c) (hc : c.toNat < 128) : chrs d = (c.toNat :: (chrs (d.extract 1 d.size)).1, (chrs (d.extract 1 d.size)).2.map (1 + ·)) := by
  have e : (⟨#[c]⟩ : ByteArray) ++ d.extract 1 d.size = d := by
    have h1 : d.extract 0 1 = ⟨#[c]⟩ := by
      apply ByteArray.ext
      apply Array.ext'
      rw [Lib.extract_data]
      have hl : d.data.toList.length = d.size := rfl
      unfold byteAt at h0
      cases hx : d.data.toList with
      | nil => rw [hx] at hl; simp at hl; omega
      | cons x r => rw [hx] at h0; simp at h0; subst h0; simp
    rw [← h1]; exact extract_split d 1 hd
  have h := chrs_join ⟨#[c]⟩ (d.extract 1 d.size) (by rw [chrs_byte c hc])
  rw [e, chrs_byte c hc] at h
  exact h

/-- A star more beside a star. -/
theorem match_star (p s : ByteArray) (f : Bool) (i : Nat) (hp : p.size ≤ 200) (hi : i < p.size) (hb : (byteAt p i).toNat = 42) : matchB (p.extract 0 i ++ starS ++ p.extract i p.size) s f = matchB p s f := by
  have hd0 : byteAt (p.extract i p.size) 0 = byteAt p i := by rw [byteAt_ext _ _ _ _ (Nat.le_refl _) (by omega), Nat.add_zero]
  have hds := extract_size p i p.size (by omega) (Nat.le_refl _)
  have has := extract_size p 0 i (by omega) (by omega)
  have hsp := extract_split p i (by omega)
  have hdc := chrs_head (p.extract i p.size) 42 (by omega) (by apply UInt8.toNat_inj.1; rw [hd0, hb]; rfl) (by decide)
  rw [show (42 : UInt8).toNat = 42 from rfl] at hdc
  generalize p.extract 0 i = a at *
  generalize p.extract i p.size = d at *
  rw [Bool.eq_iff_iff, matchB_iff, matchB_iff]
  have hsz : (a ++ starS ++ d).size ≤ 1024 := by
    rw [size_app, size_app, has, hds]
    show i + 1 + _ ≤ _
    omega
  have hz : p.size ≤ 1024 := by omega
  simp only [hsz, hz, true_and]
  subst hsp
  unfold patP
  cases hx : (chrs a).2 with
  | none =>
    have h1 := chrs_join a d hx
    have h2 := chrs_join a starS hx
    rw [chrs_star] at h2
    have h3 := chrs_join (a ++ starS) d (by rw [h2]; rfl)
    rw [h3, h2, h1, hdc]
    simp only [Option.map_eq_none_iff, List.map_append, List.map_cons, List.map_nil, partOf_star]
    refine and_congr_right fun _ => and_congr_right fun _ => ?_
    exact lang_double f _ _ _
  | some k =>
    have hb2 : (byteAt d 0).toNat < 128 := by rw [hd0, hb]; decide
    have h1 := chrs_join_bad a d k hx (by omega) hb2
    have h2 := chrs_join_bad a starS k hx (by decide) (by decide)
    have h3 := chrs_join_bad (a ++ starS) d k (by rw [h2]) (by omega) hb2
    rw [h1, h3]
    simp

theorem lang_self (f : Bool) (l u : List Nat) (h : ∀ c ∈ l, c ≠ 42 ∧ c ≠ 63) : Lang false (l.map partOf) u ↔ u = l := by
  induction l generalizing u with
  | nil => simp [Lang]
  | cons c l ih =>
    have hc := h c (by simp)
    simp only [List.map_cons, partOf_char hc.1 hc.2]
    constructor
    · rintro ⟨a, b, rfl, h1, h2⟩
      obtain ⟨x, rfl, hx⟩ := (oneOk_one rfl).1 h1
      rw [(ih b (fun d hd => h d (by simp [hd]))).1 h2]
      have : c = x := by simpa [standsB] using hx
      rw [this]; rfl
    · rintro rfl
      exact ⟨[c], l, rfl, (oneOk_one rfl).2 ⟨c, rfl, by simp [standsB]⟩, (ih l (fun d hd => h d (by simp [hd]))).2 rfl⟩
theorem stands_fold {p : GPart} {c : Nat} (h : standsB p c false = true) : standsB p c true = true := by
  unfold standsB at h ⊢
  simp only [Bool.false_and, Bool.or_false, Bool.true_and] at h ⊢
  rw [Bool.or_eq_true] at h
  rcases h with h | h
  · rw [h]; rfl
  · rw [h]; simp
theorem lang_fold (ps : List GPart) (u : List Nat) (h : Lang false ps u) : Lang true ps u := by
  induction ps generalizing u with
  | nil => exact h
  | cons p ps ih =>
    obtain ⟨a, b, rfl, h1, h2⟩ := h
    refine ⟨a, b, rfl, ?_, ih b h2⟩
    cases hm : p.many with
    | true => exact (oneOk_many hm).2 fun c hc => stands_fold ((oneOk_many hm).1 h1 c hc)
    | false =>
      obtain ⟨c, rfl, hc⟩ := (oneOk_one hm).1 h1
      exact (oneOk_one hm).2 ⟨c, rfl, stands_fold hc⟩
theorem match_fold {p s : ByteArray} (h : matchB p s false = true) : matchB p s true = true := by
  rw [matchB_iff] at h ⊢
  exact ⟨h.1, h.2.1, h.2.2.1, lang_fold _ _ h.2.2.2⟩

theorem no_signs {s : ByteArray} (h : ∀ j, j < s.size → signB (byteAt s j) = false) : ∀ c ∈ (chrs s).1, c ≠ 42 ∧ c ≠ 63 := by
  intro c hc
  have h1 := chrs_small s s.size 0 c hc
  constructor
  all_goals
    intro e
    subst e
    obtain ⟨j, hj, _, hb⟩ := h1 (by omega)
    have := h j hj
    unfold signB at this
    rw [hb] at this
    simp at this
theorem match_self (s : ByteArray) (f : Bool) (hs : s.size ≤ 200) (h : leadN s = s.size) : matchB s s f = (chrs s).2.isNone := by
  obtain ⟨_, h2, _⟩ := leadN_spec s
  rw [h] at h2
  have hn := no_signs h2
  rw [Bool.eq_iff_iff, matchB_iff, Option.isNone_iff_eq_none]
  refine ⟨fun k => k.2.1, fun k => ⟨by omega, k, k, ?_⟩⟩
  have := (lang_self false (chrs s).1 (chrs s).1 hn).2 rfl
  cases f with
  | false => exact this
  | true => exact lang_fold _ _ this

/-- What begins with a text's characters begins with its bytes. -/
theorem begins_bytes {a s : ByteArray} {r : List Nat} (ha : (chrs a).2 = none) (hs : (chrs s).2 = none) (h : (chrs s).1 = (chrs a).1 ++ r) : a.size ≤ s.size ∧ s.extract 0 a.size = a := by
  have h1 := put_chrs a ha
  have h2 := put_chrs s hs
  rw [h, putAll_app, h1] at h2
  have hl : s.data.toList.length = s.size := rfl
  have hla : a.data.toList.length = a.size := rfl
  have hle : a.size ≤ s.size := by rw [← hl, ← h2, List.length_append]; omega
  refine ⟨hle, ?_⟩
  apply ByteArray.ext
  apply Array.ext'
  rw [Lib.extract_data, ← h2, List.drop_zero, Nat.sub_zero, ← hla, List.take_append_of_le_length (Nat.le_refl _), List.take_length]
theorem match_lead {p s : ByteArray} (h : matchB p s false = true) : (leadS p).size ≤ s.size ∧ s.extract 0 (leadS p).size = leadS p := by
  rw [matchB_iff] at h
  obtain ⟨_, hp, hs, hl⟩ := h
  obtain ⟨k1, k2, k3⟩ := leadN_spec p
  have hsp := extract_split p (leadN p) k1
  have has := extract_size p 0 (leadN p) (by omega) k1
  have hbs := extract_size p (leadN p) p.size k1 (Nat.le_refl _)
  have hab : ∀ j, j < (p.extract 0 (leadN p)).size → signB (byteAt (p.extract 0 (leadN p)) j) = false := fun j hj => by
    rw [has] at hj
    rw [byteAt_ext _ _ _ _ k1 (by omega), Nat.zero_add]
    exact k2 j (by omega)
  have hb0 : 0 < (p.extract (leadN p) p.size).size → (byteAt (p.extract (leadN p) p.size) 0).toNat < 128 := fun h => by
    rw [byteAt_ext _ _ _ _ (Nat.le_refl _) (by omega), Nat.add_zero]
    have := k3 (by omega)
    unfold signB at this
    simp at this
    omega
  have hle : leadS p = p.extract 0 (leadN p) := rfl
  rw [hle]
  generalize p.extract 0 (leadN p) = a at *
  generalize p.extract (leadN p) p.size = d at *
  have ha : (chrs a).2 = none := by
    cases hx : (chrs a).2 with
    | none => rfl
    | some k =>
      by_cases hd : 0 < d.size
      · have := chrs_join_bad a d k hx hd (hb0 hd)
        rw [hsp] at this
        rw [this] at hp
        cases hp
      · have : d = ByteArray.empty := by
          apply ByteArray.ext
          apply Array.eq_empty_of_size_eq_zero
          show d.size = 0
          omega
        rw [this, ByteArray.append_empty] at hsp
        rw [hsp, hp] at hx
        cases hx
  have h1 := chrs_join a d ha
  rw [hsp] at h1
  unfold patP at hl
  rw [h1] at hl
  simp only [List.map_append] at hl
  rw [lang_app] at hl
  obtain ⟨x, y, e, h2, _⟩ := hl
  rw [lang_self false _ _ (no_signs hab)] at h2
  subst h2
  exact begins_bytes ha hs e

theorem lang_least (f : Bool) (l u : List Nat) (h : Lang f (l.map partOf) u) : (l.filter fun c => decide (c ≠ 42)).length ≤ u.length := by
  induction l generalizing u with
  | nil => simp
  | cons c l ih =>
    obtain ⟨a, b, rfl, h1, h2⟩ := h
    have := ih b h2
    by_cases hc : c = 42
    · subst hc
      simp at this ⊢
      omega
    · have hm : (partOf c).many = false := by
        unfold partOf
        rw [if_neg hc]
        split <;> rfl
      obtain ⟨x, rfl, _⟩ := (oneOk_one hm).1 h1
      simp [hc] at this ⊢
      omega
theorem match_least {p s : ByteArray} (h : matchB p s false = true) : leastN p ≤ (chrs s).1.length := by
  rw [matchB_iff] at h
  unfold leastN
  split
  · exact lang_least _ _ _ h.2.2.2
  · exact Nat.zero_le _
theorem match_behind {p s more : ByteArray} (hz : p.size ≤ 200) (h : matchB p s false = true) (hm : (chrs more).2 = none) : matchB (p ++ starS) (s ++ more) false = true := by
  rw [matchB_iff] at h ⊢
  obtain ⟨_, hp, hs, hl⟩ := h
  have h1 := chrs_join p starS hp
  have h2 := chrs_join s more hs
  rw [chrs_star] at h1
  refine ⟨by rw [size_app]; show p.size + 1 ≤ _; omega, by rw [h1]; rfl, by rw [h2, hm]; rfl, ?_⟩
  unfold patP at hl ⊢
  rw [h1, h2]
  simp only [List.map_append, List.map_cons, List.map_nil, partOf_star]
  exact (lang_app _ _ _ _).2 ⟨_, _, rfl, hl, lang_star _ _⟩
theorem match_ahead {p s more : ByteArray} (hz : p.size ≤ 200) (h : matchB p s false = true) (hm : (chrs more).2 = none) : matchB (starS ++ p) (more ++ s) false = true := by
  rw [matchB_iff] at h ⊢
  obtain ⟨_, hp, hs, hl⟩ := h
  have h1 := chrs_join starS p (by rw [chrs_star])
  have h2 := chrs_join more s hm
  rw [chrs_star] at h1
  refine ⟨by rw [size_app]; show 1 + p.size ≤ _; omega, by rw [h1, hp]; rfl, by rw [h2, hs]; rfl, ?_⟩
  unfold patP at hl ⊢
  rw [h1, h2]
  simp only [List.map_append, List.map_cons, List.map_nil, partOf_star]
  exact (lang_app _ _ _ _).2 ⟨_, _, rfl, lang_star _ _, hl⟩
end Go.Proofs.YtibhohpamnpkcaaGreatDoor

/- Plain: patterns with variables. -/
namespace Go.Proofs.YtibhohpamnpkcaaGreatDoor

def ownC (s : ByteArray) : Option (ByteArray × Nat) := (clsT.find? fun c => decide (c.1 = s)).map (·.2)
abbrev SVar := ByteArray × List ByteArray
def findV (vars : List SVar) (name : ByteArray) : Option (List ByteArray) := (vars.find? fun v => decide (v.1 = name)).map (·.2)
def isLet (c : Nat) : Bool := decide (65 ≤ c ∧ c ≤ 90) || decide (97 ≤ c ∧ c ≤ 122)
def turnC (c : Nat) : Nat := if 65 ≤ c ∧ c ≤ 90 then c + 32 else if 97 ≤ c ∧ c ≤ 122 then c - 32 else c
def withinB (fold : Bool) (among : ByteArray) (c : Nat) : Bool := decide (c < 128) && (hasB among (UInt8.ofNat c) || (fold && hasB among (UInt8.ofNat (turnC c))))
def alikeB (fold : Bool) (p c : Nat) : Bool := decide (p = 63) || (decide (p = c) || (fold && decide (turnC p = c)))
theorem alike_stands {x : Nat} (c : Nat) (fold : Bool) (h : x ≠ 42) : standsB (partOf x) c fold = alikeB fold x c := by
  unfold alikeB
  by_cases h1 : x = 63
  · subst h1; rfl
  · rw [partOf_char h h1, decide_eq_false h1, Bool.false_or]
    show (false || (decide (x = c) || (fold && decide (smallC x = smallC c)))) = _
    rw [Bool.false_or]
    have : (x = c ∨ smallC x = smallC c) ↔ (x = c ∨ turnC x = c) := by
      unfold smallC turnC
      split <;> split <;> (try split) <;> omega
    cases fold
    · simp
    · rw [Bool.eq_iff_iff]
      simpa using this
theorem many_star (x : Nat) : (partOf x).many = decide (x = 42) := by
  unfold partOf
  by_cases h : x = 42
  · rw [if_pos h, decide_eq_true h]
  · rw [if_neg h, decide_eq_false h]
    split <;> rfl
/-- A part of a pattern: a variable, or what is between variables, and where it begins. -/
structure PcS where
  text : ByteArray
  isVar : Bool
  place : Nat
/-- The parts from a place on, and where a variable has no end (-1: none). -/
def pcF (p : ByteArray) : Nat → Nat → List PcS × Int
  | 0, _ => ([], -1)
  | f + 1, at_ => if at_ < p.size then
      (if Lib.index (p.extract at_ p.size).data.toList [36, 40] < 0 then ([⟨p.extract at_ p.size, false, at_⟩], -1)
       else if cutH 41 (p.extract (at_ + (Lib.index (p.extract at_ p.size).data.toList [36, 40]).toNat + 2) p.size) = true then
          ((if 0 < Lib.index (p.extract at_ p.size).data.toList [36, 40] then [⟨p.extract at_ (at_ + (Lib.index (p.extract at_ p.size).data.toList [36, 40]).toNat), false, at_⟩] else []) ++
            ⟨cutN 41 (p.extract (at_ + (Lib.index (p.extract at_ p.size).data.toList [36, 40]).toNat + 2) p.size), true, at_ + (Lib.index (p.extract at_ p.size).data.toList [36, 40]).toNat⟩ ::
            (pcF p f (at_ + (Lib.index (p.extract at_ p.size).data.toList [36, 40]).toNat + 2 + (cutN 41 (p.extract (at_ + (Lib.index (p.extract at_ p.size).data.toList [36, 40]).toNat + 2) p.size)).size + 1)).1,
           (pcF p f (at_ + (Lib.index (p.extract at_ p.size).data.toList [36, 40]).toNat + 2 + (cutN 41 (p.extract (at_ + (Lib.index (p.extract at_ p.size).data.toList [36, 40]).toNat + 2) p.size)).size + 1)).2)
        else (if 0 < Lib.index (p.extract at_ p.size).data.toList [36, 40] then [⟨p.extract at_ (at_ + (Lib.index (p.extract at_ p.size).data.toList [36, 40]).toNat), false, at_⟩] else [], (at_ + (Lib.index (p.extract at_ p.size).data.toList [36, 40]).toNat : Nat)))
    else ([], -1)
def pcs (p : ByteArray) : List PcS × Int := pcF p (p.size + 1) 0
/-- What is wrong with a pattern with variables. -/
def missV (vars : List SVar) : List PcS → Option Nat
  | [] => none
  | q :: qs => if q.isVar = true ∧ (ownC q.text).isNone = true ∧ (findV vars q.text).isNone = true then some q.place else missV vars qs
def okV (p : ByteArray) (vars : List SVar) : Bool := okP p && ((missV vars (pcs p).1).isNone && decide ((pcs p).2 < 0))
/-- The places that are reached by texts in a pattern's language. -/
def patR (fold : Bool) (cs : List Nat) (v : ByteArray) (fr : Nat → Bool) (j : Nat) : Bool := okP v && (List.range (j + 1)).any fun i => fr i && langB fold (patP v) (segL cs i j)
def clsR (fold : Bool) (cs : List Nat) (among : ByteArray) (size : Nat) (fr : Nat → Bool) (j : Nat) : Bool := decide (size ≤ j) && (fr (j - size) && (segL cs (j - size) j).all (withinB fold among))
def stepR (fold : Bool) (cs : List Nat) (vars : List SVar) (q : PcS) (fr : Nat → Bool) (j : Nat) : Bool :=
  if q.isVar = true then match ownC q.text with
    | some (among, size) => clsR fold cs among size fr j
    | none => ((findV vars q.text).getD []).any fun v => patR fold cs v fr j
  else patR fold cs q.text fr j
def runR (fold : Bool) (cs : List Nat) (vars : List SVar) : List PcS → (Nat → Bool) → Nat → Bool
  | [], fr => fr
  | q :: qs, fr => runR fold cs vars qs (stepR fold cs vars q fr)
/-- Whether a text is in the language of a pattern with variables. -/
def subM (p : ByteArray) (vars : List SVar) (s : ByteArray) (fold : Bool) : Bool :=
  (chrs s).2.isNone && (okV p vars && runR fold (chrs s).1 vars (pcs p).1 (fun i => decide (i = 0)) (chrs s).1.length)
theorem patR_run {fold : Bool} {cs : List Nat} {v : ByteArray} {fr : Nat → Bool} (h : okP v = true) (j : Nat) : patR fold cs v fr j = nS fold (patP v) cs fr j (patP v).length := by
  unfold patR
  rw [h, Bool.true_and, Bool.eq_iff_iff, nS_end, List.any_eq_true]
  constructor
  · rintro ⟨i, hi, h2⟩
    rw [Bool.and_eq_true] at h2
    exact ⟨i, by have := List.mem_range.1 hi; omega, h2.1, h2.2⟩
  · rintro ⟨i, hi, h2, h3⟩
    exact ⟨i, List.mem_range.2 (by omega), by rw [h2, h3]; rfl⟩
theorem patR_no {fold : Bool} {cs : List Nat} {v : ByteArray} {fr : Nat → Bool} (h : okP v = false) (j : Nat) : patR fold cs v fr j = false := by
  unfold patR; rw [h]; rfl
end Go.Proofs.YtibhohpamnpkcaaGreatDoor
