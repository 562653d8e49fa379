/- Plain: the parts of an address, their digits, their numbers. -/
import Derived.Test.YtpaeloadmjblpaaDoorAllIn
import Derived.Test.YtpaeloadmjblpaaDoorNumber
import Derived.Test.YtpaeloadmjblpaaDoorOfL
namespace Go.Proofs.YtpaeloadmjblpaaDoor

def hexQ : ByteArray := ⟨#[48, 49, 50, 51, 52, 53, 54, 55, 56, 57, 97, 98, 99, 100, 101, 102, 65, 66, 67, 68, 69, 70]⟩
def octQ : ByteArray := ⟨#[48, 49, 50, 51, 52, 53, 54, 55]⟩
def decQ : ByteArray := ⟨#[48, 49, 50, 51, 52, 53, 54, 55, 56, 57]⟩
def hexedB (s : ByteArray) : Bool := decide (1 < s.size) && (decide (byteAt s 0 = 48) && (decide ((byteAt s 1).toNat = 120) || decide ((byteAt s 1).toNat = 88)))
def octB (s : ByteArray) : Bool := decide (1 < s.size) && decide (byteAt s 0 = 48)
/-- A part's base, how many bytes stand ahead of its digits, among which they are. -/
def formQ (s : ByteArray) : Nat × Nat × ByteArray := if hexedB s = true then (16, 2, hexQ) else if octB s = true then (8, 1, octQ) else (10, 0, decQ)
def digsQ (s : ByteArray) : ByteArray := s.extract (formQ s).2.1 s.size
theorem formQ_hex {s : ByteArray} (h : hexedB s = true) : formQ s = (16, 2, hexQ) := by unfold formQ; rw [if_pos h]
theorem formQ_oct {s : ByteArray} (h : hexedB s = false) (h2 : octB s = true) : formQ s = (8, 1, octQ) := by unfold formQ; rw [if_neg (by simp [h]), if_pos h2]
theorem formQ_dec {s : ByteArray} (h : hexedB s = false) (h2 : octB s = false) : formQ s = (10, 0, decQ) := by unfold formQ; rw [if_neg (by simp [h]), if_neg (by simp [h2])]
theorem hexedB_size {s : ByteArray} (h : hexedB s = true) : 2 ≤ s.size := by unfold hexedB at h; simp at h; omega
theorem octB_size {s : ByteArray} (h : octB s = true) : 2 ≤ s.size := by unfold octB at h; simp at h; omega
/-- The three forms. -/
theorem formQ_three (s : ByteArray) : (hexedB s = true ∧ formQ s = (16, 2, hexQ) ∧ 2 ≤ s.size) ∨ (hexedB s = false ∧ octB s = true ∧ formQ s = (8, 1, octQ) ∧ 2 ≤ s.size) ∨ (hexedB s = false ∧ octB s = false ∧ formQ s = (10, 0, decQ)) := by
  cases h : hexedB s with
  | true => exact .inl ⟨rfl, formQ_hex h, hexedB_size h⟩
  | false =>
    cases h2 : octB s with
    | true => exact .inr (.inl ⟨rfl, rfl, formQ_oct h h2, octB_size h2⟩)
    | false => exact .inr (.inr ⟨rfl, rfl, formQ_dec h h2⟩)
theorem digsQ_size (s : ByteArray) : (formQ s).2.1 + (digsQ s).size = s.size ∨ s.size = 0 := by
  unfold digsQ
  rw [ByteArray.size_extract]
  rcases formQ_three s with ⟨_, h, h2⟩ | ⟨_, _, h, h2⟩ | ⟨_, _, h⟩ <;> rw [h] <;> simp only <;> omega
theorem byte_ext (s : ByteArray) (a k : Nat) (h : a + k < s.size) : byteAt (s.extract a s.size) k = byteAt s (a + k) := by
  unfold byteAt
  rw [Lib.extract_data]
  simp only [List.getD, List.getElem?_take, List.getElem?_drop]
  rw [if_pos (by omega)]
/-- The first byte of a text that is not among others. -/
def firstOut (d m : ByteArray) : Option Nat := (List.range d.size).find? fun i => !hasB m (byteAt d i)
theorem firstOut_some {d m : ByteArray} {i : Nat} (hi : i < d.size) (h : ∀ j, j < i → hasB m (byteAt d j) = true) (hb : hasB m (byteAt d i) = false) : firstOut d m = some i := by
  unfold firstOut
  rw [List.find?_range_eq_some]
  exact ⟨by simp [hb], List.mem_range.2 hi, fun j hj => by simp [h j hj]⟩
theorem firstOut_none {d m : ByteArray} (h : ∀ j, j < d.size → hasB m (byteAt d j) = true) : firstOut d m = none := by
  unfold firstOut
  rw [List.find?_range_eq_none]
  exact fun j hj => by simp [h j hj]
theorem firstOut_all {d m : ByteArray} (h : firstOut d m = none) : ∀ j, j < d.size → hasB m (byteAt d j) = true := by
  unfold firstOut at h
  rw [List.find?_range_eq_none] at h
  exact fun j hj => by simpa using h j hj
/-- What is wrong with a part: the error's kind, its place in it. -/
def badQ (s : ByteArray) : Option (Nat × Nat) := if s.size = 0 then some (10, 0) else match firstOut (digsQ s) (formQ s).2.2 with
  | some k => some (11, (formQ s).2.1 + k)
  | none => none
def among_val (m : ByteArray) (b : Nat) : Bool := (List.range 256).all fun n => !hasB m (UInt8.ofNat n) || decide (valN (UInt8.ofNat n).toNat < b)
theorem among_lt {m : ByteArray} {b : Nat} (h : among_val m b = true) {c : UInt8} (hc : hasB m c = true) : valN c.toNat < b := by
  unfold among_val at h
  rw [List.all_eq_true] at h
  have := h c.toNat (List.mem_range.2 c.toNat_lt)
  simp [hc] at this
  exact this
theorem val_hex : among_val hexQ 16 = true := by decide +kernel
theorem val_oct : among_val octQ 8 = true := by decide +kernel
theorem val_dec : among_val decQ 10 = true := by decide +kernel
theorem badQ_digits {s : ByteArray} (h : badQ s = none) : ∀ j, j < (digsQ s).size → valN (byteAt (digsQ s) j).toNat < (formQ s).1 := by
  unfold badQ at h
  by_cases h0 : s.size = 0
  · rw [if_pos h0] at h; cases h
  · rw [if_neg h0] at h
    have hn : firstOut (digsQ s) (formQ s).2.2 = none := by
      cases hx : firstOut (digsQ s) (formQ s).2.2 with
      | none => rfl
      | some k => rw [hx] at h; cases h
    intro j hj
    have := firstOut_all hn j hj
    rcases formQ_three s with ⟨_, h, _⟩ | ⟨_, _, h, _⟩ | ⟨_, _, h⟩
    · rw [h] at this ⊢; exact among_lt val_hex this
    · rw [h] at this ⊢; exact among_lt val_oct this
    · rw [h] at this ⊢; exact among_lt val_dec this
/-- A part's number. -/
def numQ (s : ByteArray) : Nat := numTo (formQ s).1 (digsQ s) (digsQ s).size
def p40 : Nat := 1099511627776
theorem base_two (s : ByteArray) : 2 ≤ (formQ s).1 ∧ (formQ s).1 ≤ 16 := by
  rcases formQ_three s with ⟨_, h, _⟩ | ⟨_, _, h, _⟩ | ⟨_, _, h⟩ <;> rw [h] <;> simp
/-- One digit's number. -/
theorem num_one (c : UInt8) (h : valN c.toNat < 16) : numRes (ofL [c]) 16 15 = (valN c.toNat, 0, 0) := by
  have hs : (ofL [c]).size = 1 := by rw [ofL_size]; rfl
  have hb : byteAt (ofL [c]) 0 = c := rfl
  have hn : numTo 16 (ofL [c]) (ofL [c]).size = valN c.toNat := by rw [hs, numTo, numTo, hb]; omega
  unfold numRes
  rw [if_neg (by omega), firstBad_none (fun j hj => by have : j = 0 := by omega
                                                       subst this
                                                       rw [hb]; exact h), hn, if_neg (by omega)]
/-- The most that a part may be, and its weight: the i-th of n. -/
def limQ (i n : Nat) : Nat := if i + 1 = n then 256 ^ (5 - n) - 1 else 255
def wtQ (i n : Nat) : Nat := if i + 1 = n then 1 else 256 ^ (3 - i)
/-- All parts' check, from a place on. -/
def checkQ : List ByteArray → Nat → Option (Nat × Nat)
  | [], _ => none
  | p :: ps, at_ => match badQ p with
    | some (k, j) => some (k, at_ + j)
    | none => checkQ ps (at_ + (p.size + 1))
/-- The parts' sum, of n parts, from the i-th on: or the place of the first that is too great. -/
def sumQ (n : Nat) : List ByteArray → Nat → Nat → Nat → Nat × Option Nat
  | [], _, _, t => (t, none)
  | p :: ps, i, at_, t => if limQ i n < numQ p then (0, some at_) else sumQ n ps (i + 1) (at_ + (p.size + 1)) (t + numQ p * wtQ i n)
end Go.Proofs.YtpaeloadmjblpaaDoor
