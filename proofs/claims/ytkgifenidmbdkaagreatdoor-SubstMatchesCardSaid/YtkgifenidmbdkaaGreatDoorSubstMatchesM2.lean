/- Plain: all places of a text at once through the states of a pattern. -/
import Derived.Test.YtkgifenidmbdkaaGreatDoorSubstMatchesM1
import Derived.Laws.Tables
import Derived.Lib.DecodeNEq
import Derived.Shelf.Unicode.DecodeSlow

namespace Go.Proofs.YtkgifenidmbdkaaGreatDoor
open Classical

/-- The characters from one place to another. -/
def segL (cs : List Nat) (i j : Nat) : List Nat := (cs.take j).drop i
theorem seg_self (cs : List Nat) (i : Nat) : segL cs i i = [] := by
  unfold segL
  apply List.drop_eq_nil_of_le
  rw [List.length_take]; omega
theorem seg_snoc {cs : List Nat} {i j c : Nat} (h : i ≤ j) (hc : cs[j]? = some c) : segL cs i (j + 1) = segL cs i j ++ [c] := by
  obtain ⟨hj, rfl⟩ := List.getElem?_eq_some_iff.1 hc
  unfold segL
  rw [List.take_succ_eq_append_getElem hj, List.drop_append_of_le_length (by rw [List.length_take]; omega)]
theorem seg_all (cs : List Nat) : segL cs 0 cs.length = cs := by unfold segL; simp
theorem skip_iff (ps : List GPart) (g : Nat → Bool) : ∀ k, skipF ps g k = true ↔ ∃ j, j ≤ k ∧ g j = true ∧ ∀ l, j ≤ l → l < k → manyAt ps l = true := by
  intro k
  induction k with
  | zero =>
    constructor
    · intro h; exact ⟨0, Nat.le_refl _, h, fun l _ hl => by omega⟩
    · rintro ⟨j, hj, h, _⟩
      obtain rfl : j = 0 := by omega
      exact h
  | succ k ih =>
    rw [skipF_succ, Bool.or_eq_true, Bool.and_eq_true, ih]
    constructor
    · rintro (h | ⟨⟨j, hj, h, hl⟩, hm⟩)
      · exact ⟨k + 1, Nat.le_refl _, h, fun l h1 h2 => by omega⟩
      · refine ⟨j, by omega, h, fun l h1 h2 => ?_⟩
        by_cases e : l = k
        · exact e ▸ hm
        · exact hl l h1 (by omega)
    · rintro ⟨j, hj, h, hl⟩
      by_cases e : j = k + 1
      · exact .inl (e ▸ h)
      · exact .inr ⟨⟨j, by omega, h, fun l h1 h2 => hl l h1 (by omega)⟩, hl k (by omega) (by omega)⟩
section
variable (f : Bool) (ps : List GPart) (cs : List Nat) (fr : Nat → Bool)
/-- State k is reached at place i from one of the places ahead that were reached. -/
noncomputable def nS (i k : Nat) : Bool := decide (∃ i0, i0 ≤ i ∧ fr i0 = true ∧ Reached f ps (segL cs i0 i) k)
/-- What a character's step has reached, of the first n parts. -/
noncomputable def nP (i c n m : Nat) : Bool := decide (∃ i0, i0 ≤ i ∧ fr i0 = true ∧ ∃ j, j < n ∧ Con f ps (segL cs i0 i) c j m)
/-- The states ahead of place i. -/
noncomputable def nA : Nat → Nat → Bool
  | 0, _ => false
  | i + 1, m => match cs[i]? with
    | some c => nP f ps cs fr i c ps.length m
    | none => false
variable {f ps cs fr}
theorem nS_iff {i k : Nat} : nS f ps cs fr i k = true ↔ ∃ i0, i0 ≤ i ∧ fr i0 = true ∧ Reached f ps (segL cs i0 i) k := by unfold nS; exact decide_eq_true_iff
theorem nP_iff {i c n m : Nat} : nP f ps cs fr i c n m = true ↔ ∃ i0, i0 ≤ i ∧ fr i0 = true ∧ ∃ j, j < n ∧ Con f ps (segL cs i0 i) c j m := by unfold nP; exact decide_eq_true_iff
theorem nP_zero (i c m : Nat) : nP f ps cs fr i c 0 m = false := by
  rw [Bool.eq_false_iff]; intro h
  obtain ⟨_, _, _, j, hj, _⟩ := nP_iff.1 h
  omega
theorem nP_succ {i c n m : Nat} {p : GPart} (hp : ps[n]? = some p) : nP f ps cs fr i c (n + 1) m = true ↔ (nP f ps cs fr i c n m = true ∨ (nS f ps cs fr i n = true ∧ standsB p c f = true ∧ ((p.many = true ∧ m = n) ∨ (p.many = false ∧ m = n + 1)))) := by
  rw [nP_iff, nP_iff, nS_iff]
  constructor
  · rintro ⟨i0, h0, h1, j, hj, hc⟩
    by_cases e : j = n
    · subst e
      obtain ⟨hr, h2, h3⟩ := (con_of hp).1 hc
      exact .inr ⟨⟨i0, h0, h1, rB_iff.1 hr⟩, h2, h3⟩
    · exact .inl ⟨i0, h0, h1, j, by omega, hc⟩
  · rintro (⟨i0, h0, h1, j, hj, hc⟩ | ⟨⟨i0, h0, h1, hr⟩, h2, h3⟩)
    · exact ⟨i0, h0, h1, j, by omega, hc⟩
    · exact ⟨i0, h0, h1, n, by omega, (con_of hp).2 ⟨rB_iff.2 hr, h2, h3⟩⟩
theorem nP_none {i c n : Nat} {p : GPart} (hp : ps[n]? = some p) (h : nS f ps cs fr i n = false ∨ standsB p c f = false) (m : Nat) : nP f ps cs fr i c (n + 1) m = nP f ps cs fr i c n m := by
  rw [Bool.eq_iff_iff, nP_succ hp]
  rcases h with h | h <;> simp [h]
theorem nP_many {i c n : Nat} {p : GPart} (hp : ps[n]? = some p) (h1 : nS f ps cs fr i n = true) (h2 : standsB p c f = true) (h3 : p.many = true) (m : Nat) : nP f ps cs fr i c (n + 1) m = if m = n then true else nP f ps cs fr i c n m := by
  rw [Bool.eq_iff_iff, nP_succ hp]
  by_cases hm : m = n <;> simp [h1, h2, h3, hm]
theorem nP_one {i c n : Nat} {p : GPart} (hp : ps[n]? = some p) (h1 : nS f ps cs fr i n = true) (h2 : standsB p c f = true) (h3 : p.many = false) (m : Nat) : nP f ps cs fr i c (n + 1) m = if m = n + 1 then true else nP f ps cs fr i c n m := by
  rw [Bool.eq_iff_iff, nP_succ hp]
  by_cases hm : m = n + 1 <;> simp [h1, h2, h3, hm]
theorem nA_iff {i m : Nat} : nA f ps cs fr i m = true ↔ ∃ i0 c, i0 < i ∧ cs[i - 1]? = some c ∧ fr i0 = true ∧ stepTo f ps (segL cs i0 (i - 1)) c ps.length m = true := by
  cases i with
  | zero => simp [nA]
  | succ i =>
    simp only [nA, Nat.add_sub_cancel]
    cases hc : cs[i]? with
    | none => simp
    | some c =>
      simp only [nP_iff]
      constructor
      · rintro ⟨i0, h0, h1, h⟩
        exact ⟨i0, c, by omega, rfl, h1, stepTo_iff.2 h⟩
      · rintro ⟨i0, c', h0, hc', h1, h⟩
        cases hc'
        exact ⟨i0, by omega, h1, stepTo_iff.1 h⟩
/-- The states at a place: those ahead of it, the beginning, if the place was reached, and what may stand for nothing. -/
theorem nS_skip {i : Nat} (hi : i ≤ cs.length) {k : Nat} (hk : k ≤ ps.length) : skipF ps (fun m => nA f ps cs fr i m || (decide (m = 0) && fr i)) k = nS f ps cs fr i k := by
  rw [Bool.eq_iff_iff, skip_iff, nS_iff]
  constructor
  · rintro ⟨j, hj, h, hl⟩
    rw [Bool.or_eq_true, Bool.and_eq_true, decide_eq_true_eq] at h
    rcases h with h | ⟨rfl, h⟩
    · obtain ⟨i0, c, h0, hc, h1, h2⟩ := nA_iff.1 h
      have h3 : skipF ps (stepTo f ps (segL cs i0 (i - 1)) c ps.length) k = true := (skip_iff _ _ _).2 ⟨j, hj, h2, hl⟩
      rw [skip_step f ps _ c k hk, rB_iff, ← seg_snoc (by omega) hc, show i - 1 + 1 = i by omega] at h3
      exact ⟨i0, by omega, h1, h3⟩
    · have h3 : skipF ps startF k = true := (skip_iff _ _ _).2 ⟨0, hj, rfl, hl⟩
      rw [skip_start f ps k hk, rB_iff, ← seg_self cs i] at h3
      exact ⟨i, Nat.le_refl _, h, h3⟩
  · rintro ⟨i0, h0, h1, h2⟩
    by_cases e : i0 = i
    · subst e
      rw [seg_self, ← rB_iff, ← skip_start f ps k hk, skip_iff] at h2
      obtain ⟨j, hj, h3, hl⟩ := h2
      have hj0 : j = 0 := by simpa [startF] using h3
      exact ⟨j, hj, by simp [hj0, h1], hl⟩
    · have hc : cs[i - 1]? = some (cs[i - 1]'(by omega)) := List.getElem?_eq_getElem (by omega)
      rw [show i = i - 1 + 1 by omega, seg_snoc (by omega) hc, ← rB_iff, ← skip_step f ps _ _ k hk, skip_iff] at h2
      obtain ⟨j, hj, h3, hl⟩ := h2
      exact ⟨j, hj, by rw [Bool.or_eq_true]; exact .inl (nA_iff.2 ⟨i0, _, by omega, hc, h1, h3⟩), hl⟩
/-- Place i is reached by a text in the pattern's language. -/
theorem nS_end {i : Nat} : nS f ps cs fr i ps.length = true ↔ ∃ i0, i0 ≤ i ∧ fr i0 = true ∧ langB f ps (segL cs i0 i) = true := by
  rw [nS_iff]
  constructor
  · rintro ⟨i0, h0, h1, h2⟩; exact ⟨i0, h0, h1, by rw [← rB_all]; exact rB_iff.2 h2⟩
  · rintro ⟨i0, h0, h1, h2⟩; exact ⟨i0, h0, h1, by rw [← rB_all] at h2; exact rB_iff.1 h2⟩
end
end Go.Proofs.YtkgifenidmbdkaaGreatDoor

/- The table of package subst. -/
namespace Go.Proofs.YtkgifenidmbdkaaGreatDoor

/-- The variables that there are always. -/
def clsT : List (ByteArray × ByteArray × Nat) := [(⟨#[97, 108, 112, 104, 97]⟩, ⟨#[97, 98, 99, 100, 101, 102, 103, 104, 105, 106, 107, 108, 109, 110, 111, 112, 113, 114, 115, 116, 117, 118, 119, 120, 121, 122, 65, 66, 67, 68, 69, 70, 71, 72, 73, 74, 75, 76, 77, 78, 79, 80, 81, 82, 83, 84, 85, 86, 87, 88, 89, 90]⟩, 1), (⟨#[117, 112, 112, 101, 114]⟩, ⟨#[65, 66, 67, 68, 69, 70, 71, 72, 73, 74, 75, 76, 77, 78, 79, 80, 81, 82, 83, 84, 85, 86, 87, 88, 89, 90]⟩, 1), (⟨#[108, 111, 119, 101, 114]⟩, ⟨#[97, 98, 99, 100, 101, 102, 103, 104, 105, 106, 107, 108, 109, 110, 111, 112, 113, 114, 115, 116, 117, 118, 119, 120, 121, 122]⟩, 1), (⟨#[100, 105, 103, 105, 116]⟩, ⟨#[48, 49, 50, 51, 52, 53, 54, 55, 56, 57]⟩, 1), (⟨#[97, 108, 110, 117, 109]⟩, ⟨#[97, 98, 99, 100, 101, 102, 103, 104, 105, 106, 107, 108, 109, 110, 111, 112, 113, 114, 115, 116, 117, 118, 119, 120, 121, 122, 65, 66, 67, 68, 69, 70, 71, 72, 73, 74, 75, 76, 77, 78, 79, 80, 81, 82, 83, 84, 85, 86, 87, 88, 89, 90, 48, 49, 50, 51, 52, 53, 54, 55, 56, 57]⟩, 1), (⟨#[120, 100, 105, 103, 105, 116]⟩, ⟨#[48, 49, 50, 51, 52, 53, 54, 55, 56, 57, 97, 98, 99, 100, 101, 102, 65, 66, 67, 68, 69, 70]⟩, 1), (⟨#[114, 101, 103, 105, 111, 110]⟩, ⟨#[65, 66, 67, 68, 69, 70, 71, 72, 73, 74, 75, 76, 77, 78, 79, 80, 81, 82, 83, 84, 85, 86, 87, 88, 89, 90]⟩, 2), (⟨#[108, 97, 110, 103]⟩, ⟨#[97, 98, 99, 100, 101, 102, 103, 104, 105, 106, 107, 108, 109, 110, 111, 112, 113, 114, 115, 116, 117, 118, 119, 120, 121, 122]⟩, 2)]
end Go.Proofs.YtkgifenidmbdkaaGreatDoor

/- Plain facts on UTF-8: the character at a place of a text. -/
namespace Go.Proofs.YtkgifenidmbdkaaGreatDoor

/-- What Go's decoder tells of a place. -/
def decB (s : ByteArray) (i : Nat) : Nat × Nat := Lib.decodeN (s.size - i) (byteAt s i).toNat (byteAt s (i + 1)).toNat (byteAt s (i + 2)).toNat (byteAt s (i + 3)).toNat
/-- A character stands at a place. -/
def okB (s : ByteArray) (i : Nat) : Bool := decide (decB s i ≠ (65533, 1))
/-- A number is a character. -/
def rightC (n : Nat) : Prop := n < 55296 ∨ (57344 ≤ n ∧ n ≤ 1114111)

theorem byteAt_get (s : ByteArray) (i : Nat) : s.get! i = byteAt s i := by
  unfold byteAt ByteArray.get!
  simp [List.getD, Array.getElem!_eq_getD, Array.getD_eq_getD_getElem?]
  rfl

theorem decodeN_bounds (n b0 b1 b2 b3 : Nat) (hn : 0 < n) (h0 : b0 < 256) : 1 ≤ (Lib.decodeN n b0 b1 b2 b3).2 ∧ (Lib.decodeN n b0 b1 b2 b3).2 ≤ 4 ∧ (Lib.decodeN n b0 b1 b2 b3).2 ≤ n ∧ rightC (Lib.decodeN n b0 b1 b2 b3).1 := by
  unfold Lib.decodeN rightC
  repeat' split
  all_goals (simp only []; omega)

theorem decB_bounds (s : ByteArray) (i : Nat) (hi : i < s.size) : 1 ≤ (decB s i).2 ∧ (decB s i).2 ≤ 4 ∧ i + (decB s i).2 ≤ s.size ∧ rightC (decB s i).1 := by
  have := decodeN_bounds (s.size - i) (byteAt s i).toNat (byteAt s (i + 1)).toNat (byteAt s (i + 2)).toNat (byteAt s (i + 3)).toNat (by omega) (byteAt s i).toNat_lt
  change 1 ≤ (decB s i).2 ∧ (decB s i).2 ≤ 4 ∧ (decB s i).2 ≤ s.size - i ∧ rightC (decB s i).1 at this
  obtain ⟨a, b, c, d⟩ := this
  exact ⟨a, b, by omega, d⟩

theorem byteAt_extract (s : ByteArray) (i j : Nat) (_ : i + j < s.size) : byteAt (s.extract i s.size) j = byteAt s (i + j) := by
  unfold byteAt
  rw [Lib.extract_data, List.take_of_length_le (by simp)]
  simp [List.getD]
theorem byteAt_out (s : ByteArray) (j : Nat) (h : s.size ≤ j) : byteAt s j = 0 := by
  unfold byteAt
  rw [List.getD, List.getElem?_eq_none (by exact h)]
  rfl
theorem extract_tail_size (s : ByteArray) (i : Nat) (h : i ≤ s.size) : (s.extract i s.size).size = s.size - i := by
  rw [ByteArray.size_extract]; omega

theorem decodeGo_extract (s : ByteArray) (i : Nat) (hi : i < s.size) : Lib.decodeGo (s.extract i s.size) = decB s i := by
  have hsz := extract_tail_size s i (by omega)
  have hb : ∀ j, byteAt (s.extract i s.size) j = byteAt s (i + j) := fun j => by
    by_cases h : i + j < s.size
    · exact byteAt_extract s i j h
    · rw [byteAt_out _ _ (by rw [hsz]; omega), byteAt_out _ _ (by omega)]
  rw [Lib.decodeGo, if_neg (by omega), Lib.decode_at, hsz, Nat.sub_zero]
  simp only [byteAt_get, hb, Nat.zero_add, decB, Nat.add_zero]

/-- The characters from a place on, and the place at which none stands. -/
def chrsFrom (s : ByteArray) : Nat → Nat → List Nat × Option Nat
  | 0, _ => ([], none)
  | f + 1, i => if i < s.size then (if okB s i = true then ((decB s i).1 :: (chrsFrom s f (i + (decB s i).2)).1, (chrsFrom s f (i + (decB s i).2)).2) else ([], some i)) else ([], none)
/-- A text's characters, and the place at which none stands. -/
def chrs (s : ByteArray) : List Nat × Option Nat := chrsFrom s s.size 0

/-- So many characters have been read, up to a place. -/
def Reach (s : ByteArray) (l : List Nat) (i : Nat) : Prop := ∃ f, s.size - i ≤ f ∧ l.length ≤ i ∧ chrs s = (l ++ (chrsFrom s f i).1, (chrsFrom s f i).2)
theorem Reach.zero (s : ByteArray) : Reach s [] 0 := ⟨s.size, by omega, by simp, by simp [chrs]⟩
theorem Reach.step {s : ByteArray} {l : List Nat} {i : Nat} (h : Reach s l i) (hi : i < s.size) (ho : okB s i = true) : Reach s (l ++ [(decB s i).1]) (i + (decB s i).2) := by
  obtain ⟨f, hf, hl, e⟩ := h
  have hd := decB_bounds s i hi
  cases f with
  | zero => omega
  | succ f =>
    rw [chrsFrom, if_pos hi, if_pos ho] at e
    exact ⟨f, by omega, by simp; omega, by simpa using e⟩
theorem Reach.bad {s : ByteArray} {l : List Nat} {i : Nat} (h : Reach s l i) (hi : i < s.size) (ho : okB s i = false) : chrs s = (l, some i) := by
  obtain ⟨f, hf, hl, e⟩ := h
  cases f with
  | zero => omega
  | succ f =>
    rw [chrsFrom, if_pos hi, if_neg (by simp [ho])] at e
    simpa using e
theorem Reach.done {s : ByteArray} {l : List Nat} {i : Nat} (h : Reach s l i) (hi : ¬ i < s.size) : chrs s = (l, none) := by
  obtain ⟨f, hf, hl, e⟩ := h
  cases f with
  | zero => rw [chrsFrom] at e; simpa using e
  | succ f =>
    rw [chrsFrom, if_neg hi] at e
    simpa using e
end Go.Proofs.YtkgifenidmbdkaaGreatDoor

/- Plain facts: the reference's way to a character (its bytes are made, and held against what stands there) is Go's decoder's. -/
namespace Go.Proofs.YtkgifenidmbdkaaGreatDoor

/-- A character's bytes. -/
def putN (n : Nat) : List Nat :=
  if n < 128 then [n] else if n < 2048 then [192 + n / 64, 128 + n % 64] else if n < 65536 then [224 + n / 4096, 128 + n / 64 % 64, 128 + n % 64]
  else [240 + n / 262144, 128 + n / 4096 % 64, 128 + n / 64 % 64, 128 + n % 64]
/-- The number that so many bytes would tell. -/
def guessZ (k b0 b1 b2 b3 : Int) : Int :=
  if k = 1 then b0 else if k = 2 then 64 * (b0 - 192) + b1 - 128 else if k = 3 then 64 * (64 * (b0 - 224) + b1 - 128) + b2 - 128 else 64 * (64 * (64 * (b0 - 240) + b1 - 128) + b2 - 128) + b3 - 128
def rightZ (n : Int) : Prop := 0 ≤ n ∧ n < 1114112 ∧ ¬ (55296 ≤ n ∧ n < 57344)
def firstN (k b0 b1 b2 b3 : Nat) : List Nat := [b0, b1, b2, b3].take k

theorem guess1 (b0 b1 b2 b3 : Int) : guessZ 1 b0 b1 b2 b3 = b0 := by simp [guessZ]
theorem guess2 (b0 b1 b2 b3 : Int) : guessZ 2 b0 b1 b2 b3 = 64 * (b0 - 192) + b1 - 128 := by simp [guessZ]
theorem guess3 (b0 b1 b2 b3 : Int) : guessZ 3 b0 b1 b2 b3 = 64 * (64 * (b0 - 224) + b1 - 128) + b2 - 128 := by simp [guessZ]
theorem guess4 (b0 b1 b2 b3 : Int) : guessZ 4 b0 b1 b2 b3 = 64 * (64 * (64 * (b0 - 240) + b1 - 128) + b2 - 128) + b3 - 128 := by simp [guessZ]

theorem hit_dec {n k b0 b1 b2 b3 : Nat} (hk1 : 1 ≤ k) (hk4 : k ≤ 4) (hkn : k ≤ n) (h0 : b0 < 256) (h1 : b1 < 256) (h2 : b2 < 256) (_ : b3 < 256) (hr : rightZ (guessZ k b0 b1 b2 b3))
    (hp : putN (guessZ k b0 b1 b2 b3).toNat = firstN k b0 b1 b2 b3) : Lib.decodeN n b0 b1 b2 b3 = ((guessZ k b0 b1 b2 b3).toNat, k) ∧ ((guessZ k b0 b1 b2 b3).toNat, k) ≠ (65533, 1) := by
  unfold rightZ at hr
  obtain ⟨N, hN⟩ := Int.eq_ofNat_of_zero_le hr.1
  rw [hN] at hr hp ⊢
  rw [Int.toNat_natCast] at hp ⊢
  have hc : k = 1 ∨ k = 2 ∨ k = 3 ∨ k = 4 := by omega
  rcases hc with rfl | rfl | rfl | rfl
  · rw [show ((1 : Nat) : Int) = 1 from rfl, guess1] at hN
    unfold putN firstN at hp
    repeat' split at hp
    all_goals simp at hp
    refine ⟨?_, by simp; omega⟩
    unfold Lib.decodeN
    rw [if_pos (by omega)]
    simp; omega
  · rw [show ((2 : Nat) : Int) = 2 from rfl, guess2] at hN
    unfold putN firstN at hp
    repeat' split at hp
    all_goals simp at hp
    refine ⟨?_, by simp⟩
    unfold Lib.decodeN
    rw [if_neg (by omega), if_pos (by omega), if_pos (by omega)]
    simp; omega
  · rw [show ((3 : Nat) : Int) = 3 from rfl, guess3] at hN
    unfold putN firstN at hp
    repeat' split at hp
    all_goals simp at hp
    refine ⟨?_, by simp⟩
    unfold Lib.decodeN
    rw [if_neg (by omega), if_neg (by omega), if_pos (by omega), if_pos (by omega)]
    simp; omega
  · rw [show ((4 : Nat) : Int) = 4 from rfl, guess4] at hN
    unfold putN firstN at hp
    repeat' split at hp
    all_goals simp at hp
    refine ⟨?_, by simp⟩
    unfold Lib.decodeN
    rw [if_neg (by omega), if_neg (by omega), if_neg (by omega), if_pos (by omega), if_pos (by omega)]
    simp; omega

theorem dec_hit {n b0 b1 b2 b3 : Nat} (hn : 0 < n) (h0 : b0 < 256) (h1 : b1 < 256) (h2 : b2 < 256) (_ : b3 < 256) (ho : Lib.decodeN n b0 b1 b2 b3 ≠ (65533, 1)) :
    ∃ k, 1 ≤ k ∧ k ≤ 4 ∧ k ≤ n ∧ rightZ (guessZ k b0 b1 b2 b3) ∧ putN (guessZ k b0 b1 b2 b3).toNat = firstN k b0 b1 b2 b3 := by
  unfold Lib.decodeN at ho
  repeat' split at ho
  all_goals first | exact absurd rfl ho | skip
  · refine ⟨1, by omega, by omega, by omega, ?_, ?_⟩
    all_goals rw [show ((1 : Nat) : Int) = 1 from rfl, guess1]
    · unfold rightZ; omega
    · rw [Int.toNat_natCast]; unfold putN firstN
      rw [if_pos (by omega)]; rfl
  · refine ⟨2, by omega, by omega, by omega, ?_, ?_⟩
    all_goals rw [show ((2 : Nat) : Int) = 2 from rfl, guess2]
    · unfold rightZ; omega
    · unfold putN firstN
      rw [if_neg (by omega), if_pos (by omega)]
      simp; omega
  · refine ⟨3, by omega, by omega, by omega, ?_, ?_⟩
    all_goals rw [show ((3 : Nat) : Int) = 3 from rfl, guess3]
    · unfold rightZ; omega
    · unfold putN firstN
      rw [if_neg (by omega), if_neg (by omega), if_pos (by omega)]
      simp; omega
  · refine ⟨4, by omega, by omega, by omega, ?_, ?_⟩
    all_goals rw [show ((4 : Nat) : Int) = 4 from rfl, guess4]
    · unfold rightZ; omega
    · unfold putN firstN
      rw [if_neg (by omega), if_neg (by omega), if_neg (by omega)]
      simp; omega
end Go.Proofs.YtkgifenidmbdkaaGreatDoor

/- Plain facts: the characters of two rows of bytes, one behind the other. -/
namespace Go.Proofs.YtkgifenidmbdkaaGreatDoor

theorem guessZ_agree {k : Nat} (hk1 : 1 ≤ k) (hk4 : k ≤ 4) {b0 b1 b2 b3 c0 c1 c2 c3 : Nat} (h0 : b0 = c0) (h1 : 2 ≤ k → b1 = c1) (h2 : 3 ≤ k → b2 = c2) (h3 : 4 ≤ k → b3 = c3) :
    guessZ k b0 b1 b2 b3 = guessZ k c0 c1 c2 c3 ∧ firstN k b0 b1 b2 b3 = firstN k c0 c1 c2 c3 := by
  have hc : k = 1 ∨ k = 2 ∨ k = 3 ∨ k = 4 := by omega
  subst h0
  rcases hc with rfl | rfl | rfl | rfl
  · exact ⟨by rw [show ((1 : Nat) : Int) = 1 from rfl, guess1, guess1], rfl⟩
  · rw [h1 (by omega)]
    exact ⟨by rw [show ((2 : Nat) : Int) = 2 from rfl, guess2, guess2], rfl⟩
  · rw [h1 (by omega), h2 (by omega)]
    exact ⟨by rw [show ((3 : Nat) : Int) = 3 from rfl, guess3, guess3], rfl⟩
  · rw [h1 (by omega), h2 (by omega), h3 (by omega)]
    exact ⟨rfl, rfl⟩

/-- What stands whole ahead of the end is told alike when more bytes follow. -/
theorem decB_more {s t : ByteArray} {i i' : Nat} (hi : i < s.size) (hle : s.size - i ≤ t.size - i') (ho : okB s i = true) (hb : ∀ j, j < s.size - i → byteAt t (i' + j) = byteAt s (i + j)) : decB t i' = decB s i ∧ okB t i' = true := by
  have ho' : decB s i ≠ (65533, 1) := of_decide_eq_true ho
  obtain ⟨k, hk1, hk4, hkn, hr, hp⟩ := dec_hit (n := s.size - i) (by omega) (byteAt s i).toNat_lt (byteAt s (i + 1)).toNat_lt (byteAt s (i + 2)).toNat_lt (byteAt s (i + 3)).toNat_lt ho'
  obtain ⟨e1, _⟩ := hit_dec hk1 hk4 hkn (byteAt s i).toNat_lt (byteAt s (i + 1)).toNat_lt (byteAt s (i + 2)).toNat_lt (byteAt s (i + 3)).toNat_lt hr hp
  have g := guessZ_agree hk1 hk4 (b0 := (byteAt t i').toNat) (b1 := (byteAt t (i' + 1)).toNat) (b2 := (byteAt t (i' + 2)).toNat) (b3 := (byteAt t (i' + 3)).toNat)
    (c0 := (byteAt s i).toNat) (c1 := (byteAt s (i + 1)).toNat) (c2 := (byteAt s (i + 2)).toNat) (c3 := (byteAt s (i + 3)).toNat)
    (by have := hb 0 (by omega); simpa using congrArg UInt8.toNat this) (fun h => congrArg UInt8.toNat (hb 1 (by omega))) (fun h => congrArg UInt8.toNat (hb 2 (by omega))) (fun h => congrArg UInt8.toNat (hb 3 (by omega)))
  rw [← g.1] at hr hp
  rw [← g.2] at hp
  obtain ⟨e2, n2⟩ := hit_dec (n := t.size - i') hk1 hk4 (by omega) (byteAt t i').toNat_lt (byteAt t (i' + 1)).toNat_lt (byteAt t (i' + 2)).toNat_lt (byteAt t (i' + 3)).toNat_lt hr hp
  have e3 : decB t i' = decB s i := by
    unfold decB
    rw [e1, e2, g.1]
  refine ⟨e3, ?_⟩
  unfold okB
  rw [e3]
  exact ho

theorem byteAt_app (a b : ByteArray) (j : Nat) : byteAt (a ++ b) j = if j < a.size then byteAt a j else byteAt b (j - a.size) := by
  have e : (a ++ b).data.toList = a.data.toList ++ b.data.toList := by rw [ByteArray.data_append]; simp
  have ha : a.data.toList.length = a.size := rfl
  unfold byteAt
  rw [e]
  simp only [List.getD, List.getElem?_append, ha]
  split <;> rfl
theorem size_app (a b : ByteArray) : (a ++ b).size = a.size + b.size := ByteArray.size_append

/-- What begins in the second is told as there. -/
theorem decB_second (a b : ByteArray) (j : Nat) : decB (a ++ b) (a.size + j) = decB b j := by
  have hb : ∀ m, byteAt (a ++ b) (a.size + m) = byteAt b m := fun m => by
    rw [byteAt_app, if_neg (by omega)]
    congr 1; omega
  unfold decB
  rw [size_app, hb, Nat.add_assoc, hb, Nat.add_assoc, hb, Nat.add_assoc, hb]
  congr 1; omega

theorem chrs_first (a b : ByteArray) : ∀ (f i : Nat) (l : List Nat), a.size - i ≤ f → i ≤ a.size → (chrsFrom a f i).2 = none → Reach (a ++ b) l i → Reach (a ++ b) (l ++ (chrsFrom a f i).1) a.size := by
  intro f
  induction f with
  | zero =>
    intro i l hf hi _ hr
    obtain rfl : i = a.size := by omega
    simpa [chrsFrom] using hr
  | succ f ih =>
    intro i l hf hi hn hr
    unfold chrsFrom at hn ⊢
    by_cases hlt : i < a.size
    · rw [if_pos hlt] at hn ⊢
      by_cases ho : okB a i = true
      · rw [if_pos ho] at hn ⊢
        have hd := decB_bounds a i hlt
        have hm := decB_more (s := a) (t := a ++ b) (i := i) (i' := i) hlt (by rw [size_app]; omega) ho (fun j hj => by rw [byteAt_app, if_pos (by omega)])
        have hs := hr.step (by rw [size_app]; omega) hm.2
        rw [hm.1] at hs
        have := ih (i + (decB a i).2) _ (by omega) (by omega) hn hs
        simpa using this
      · rw [if_neg ho] at hn
        simp at hn
    · rw [if_neg hlt]
      obtain rfl : i = a.size := by omega
      simpa using hr

theorem chrs_second (a b : ByteArray) : ∀ (f j : Nat) (l : List Nat), b.size - j ≤ f → j ≤ b.size → Reach (a ++ b) l (a.size + j) → chrs (a ++ b) = (l ++ (chrsFrom b f j).1, (chrsFrom b f j).2.map (a.size + ·)) := by
  intro f
  induction f with
  | zero =>
    intro j l hf hj hr
    obtain rfl : j = b.size := by omega
    rw [hr.done (by rw [size_app]; omega)]
    simp [chrsFrom]
  | succ f ih =>
    intro j l hf hj hr
    unfold chrsFrom
    by_cases hlt : j < b.size
    · rw [if_pos hlt]
      have hd := decB_bounds b j hlt
      have he := decB_second a b j
      have heo : okB (a ++ b) (a.size + j) = okB b j := by unfold okB; rw [he]
      by_cases ho : okB b j = true
      · rw [if_pos ho]
        have hs := hr.step (by rw [size_app]; omega) (heo.trans ho)
        rw [he, Nat.add_assoc] at hs
        have := ih (j + (decB b j).2) _ (by omega) (by omega) hs
        simpa using this
      · rw [if_neg ho, hr.bad (by rw [size_app]; omega) (by rw [heo]; exact Bool.not_eq_true _ ▸ ho)]
        simp
    · rw [if_neg hlt]
      obtain rfl : j = b.size := by omega
      rw [hr.done (by rw [size_app]; omega)]
      simp

theorem chrs_join (a b : ByteArray) (ha : (chrs a).2 = none) : chrs (a ++ b) = ((chrs a).1 ++ (chrs b).1, (chrs b).2.map (a.size + ·)) := by
  have h1 := chrs_first a b a.size 0 [] (by omega) (by omega) ha (Reach.zero _)
  have h2 := chrs_second a b b.size 0 _ (by omega) (by omega) h1
  rw [h2]
  simp [chrs]
theorem chrs_len (s : ByteArray) : (chrs s).1.length ≤ s.size := by
  have : ∀ f i, i ≤ s.size → (chrsFrom s f i).1.length ≤ s.size - i := by
    intro f
    induction f with
    | zero => intro i _; simp [chrsFrom]
    | succ f ih =>
      intro i hi
      unfold chrsFrom
      split
      · split
        · have hd := decB_bounds s i (by assumption)
          have := ih (i + (decB s i).2) (by omega)
          simp only [List.length_cons]; omega
        · simp
      · simp
  simpa [chrs] using this s.size 0 (by omega)
end Go.Proofs.YtkgifenidmbdkaaGreatDoor
