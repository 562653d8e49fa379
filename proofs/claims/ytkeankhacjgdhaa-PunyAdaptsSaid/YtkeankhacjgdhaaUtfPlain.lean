/- Plain facts on UTF-8: the character at a place of a text. -/
import Derived.Test.YtkeankhacjgdhaaKit
import Derived.Lib.DecodeNEq
import Derived.Shelf.Unicode.DecodeSlow
namespace Go.Proofs.Ytkeankhacjgdhaa

/-- What Go's decoder tells of a place. -/
def decB (s : ByteArray) (i : Nat) : Nat × Nat := Lib.decodeN (s.size - i) (byteAt s i).toNat (byteAt s (i + 1)).toNat (byteAt s (i + 2)).toNat (byteAt s (i + 3)).toNat
/-- A character stands at a place. -/
def okB (s : ByteArray) (i : Nat) : Bool := decide (decB s i ≠ (65533, 1))
/-- A number is a character. -/
def rightC (n : Nat) : Prop := n < 55296 ∨ (57344 ≤ n ∧ n ≤ 1114111)

theorem byteAt_get (s : ByteArray) (i : Nat) : s.get! i = byteAt s i := by
  unfold byteAt ByteArray.get!
  simp [List.getD, Array.getElem!_eq_getD, Array.getD_eq_getD_getElem?]
  rfl

theorem decodeN_bounds (n b0 b1 b2 b3 : Nat) (hn : 0 < n) (h0 : b0 < 256) : 1 ≤ (Lib.decodeN n b0 b1 b2 b3).2 ∧ (Lib.decodeN n b0 b1 b2 b3).2 ≤ 4 ∧ (Lib.decodeN n b0 b1 b2 b3).2 ≤ n ∧ rightC (Lib.decodeN n b0 b1 b2 b3).1 := by
  unfold Lib.decodeN rightC
  repeat' split
  all_goals (simp only []; omega)

theorem decB_bounds (s : ByteArray) (i : Nat) (hi : i < s.size) : 1 ≤ (decB s i).2 ∧ (decB s i).2 ≤ 4 ∧ i + (decB s i).2 ≤ s.size ∧ rightC (decB s i).1 := by
  have := decodeN_bounds (s.size - i) (byteAt s i).toNat (byteAt s (i + 1)).toNat (byteAt s (i + 2)).toNat (byteAt s (i + 3)).toNat (by omega) (byteAt s i).toNat_lt
  change 1 ≤ (decB s i).2 ∧ (decB s i).2 ≤ 4 ∧ (decB s i).2 ≤ s.size - i ∧ rightC (decB s i).1 at this
  obtain ⟨a, b, c, d⟩ := this
  exact ⟨a, b, by omega, d⟩

theorem byteAt_extract (s : ByteArray) (i j : Nat) (_ : i + j < s.size) : byteAt (s.extract i s.size) j = byteAt s (i + j) := by
  unfold byteAt
  rw [Lib.extract_data, List.take_of_length_le (by simp)]
  simp [List.getD]
theorem byteAt_out (s : ByteArray) (j : Nat) (h : s.size ≤ j) : byteAt s j = 0 := by
  unfold byteAt
  rw [List.getD, List.getElem?_eq_none (by exact h)]
  rfl
theorem extract_tail_size (s : ByteArray) (i : Nat) (h : i ≤ s.size) : (s.extract i s.size).size = s.size - i := by
  rw [ByteArray.size_extract]; omega

theorem decodeGo_extract (s : ByteArray) (i : Nat) (hi : i < s.size) : Lib.decodeGo (s.extract i s.size) = decB s i := by
  have hsz := extract_tail_size s i (by omega)
  have hb : ∀ j, byteAt (s.extract i s.size) j = byteAt s (i + j) := fun j => by
    by_cases h : i + j < s.size
    · exact byteAt_extract s i j h
    · rw [byteAt_out _ _ (by rw [hsz]; omega), byteAt_out _ _ (by omega)]
  rw [Lib.decodeGo, if_neg (by omega), Lib.decode_at, hsz, Nat.sub_zero]
  simp only [byteAt_get, hb, Nat.zero_add, decB, Nat.add_zero]

/-- The characters from a place on, and the place at which none stands. -/
def chrsFrom (s : ByteArray) : Nat → Nat → List Nat × Option Nat
  | 0, _ => ([], none)
  | f + 1, i => if i < s.size then (if okB s i = true then ((decB s i).1 :: (chrsFrom s f (i + (decB s i).2)).1, (chrsFrom s f (i + (decB s i).2)).2) else ([], some i)) else ([], none)
/-- A text's characters, and the place at which none stands. -/
def chrs (s : ByteArray) : List Nat × Option Nat := chrsFrom s s.size 0

/-- So many characters have been read, up to a place. -/
def Reach (s : ByteArray) (l : List Nat) (i : Nat) : Prop := ∃ f, s.size - i ≤ f ∧ l.length ≤ i ∧ chrs s = (l ++ (chrsFrom s f i).1, (chrsFrom s f i).2)
theorem Reach.zero (s : ByteArray) : Reach s [] 0 := ⟨s.size, by omega, by simp, by simp [chrs]⟩
theorem Reach.step {s : ByteArray} {l : List Nat} {i : Nat} (h : Reach s l i) (hi : i < s.size) (ho : okB s i = true) : Reach s (l ++ [(decB s i).1]) (i + (decB s i).2) := by
  obtain ⟨f, hf, hl, e⟩ := h
  have hd := decB_bounds s i hi
  cases f with
  | zero => omega
  | succ f =>
    rw [chrsFrom, if_pos hi, if_pos ho] at e
    exact ⟨f, by omega, by simp; omega, by simpa using e⟩
theorem Reach.bad {s : ByteArray} {l : List Nat} {i : Nat} (h : Reach s l i) (hi : i < s.size) (ho : okB s i = false) : chrs s = (l, some i) := by
  obtain ⟨f, hf, hl, e⟩ := h
  cases f with
  | zero => omega
  | succ f =>
    rw [chrsFrom, if_pos hi, if_neg (by simp [ho])] at e
    simpa using e
theorem Reach.done {s : ByteArray} {l : List Nat} {i : Nat} (h : Reach s l i) (hi : ¬ i < s.size) : chrs s = (l, none) := by
  obtain ⟨f, hf, hl, e⟩ := h
  cases f with
  | zero => rw [chrsFrom] at e; simpa using e
  | succ f =>
    rw [chrsFrom, if_neg hi] at e
    simpa using e
end Go.Proofs.Ytkeankhacjgdhaa
