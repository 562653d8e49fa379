/- Plain: texts with escapes. -/
import Derived.Test.YtajpbfffpnbhpaaDoorRefNumber
import Derived.Test.YtajpbfffpnbhpaaDoorDigitsPlain
import Derived.Test.YtajpbfffpnbhpaaDoorStrs
namespace Go.Proofs.YtajpbfffpnbhpaaDoor

theorem ext_size (p : ByteArray) (i j : Nat) (hij : i ≤ j) (hj : j ≤ p.size) : (p.extract i j).size = j - i := by
  rw [ByteArray.size_extract]; omega
theorem numRes_most (s : ByteArray) (base most : Nat) (h : (numRes s base most).2.1 = 0) : (numRes s base most).1 ≤ most := by
  unfold numRes at h ⊢
  by_cases h0 : s.size = 0
  · rw [if_pos h0] at h; simp at h
  · rw [if_neg h0] at h ⊢
    cases hx : firstBad base s with
    | some i => rw [hx] at h; simp at h
    | none =>
      rw [hx] at h
      simp only at h ⊢
      by_cases ho : 18446744073709551616 ≤ numTo base s s.size ∨ most < numTo base s s.size
      · rw [if_pos ho] at h; simp at h
      · rw [if_neg ho] at h ⊢
        show numTo base s s.size ≤ most
        omega
theorem numRes_zero (s : ByteArray) (base most : Nat) (h : (numRes s base most).2.1 ≠ 0) : (numRes s base most).1 = 0 := by
  unfold numRes at h ⊢
  by_cases h0 : s.size = 0
  · rw [if_pos h0]
  · rw [if_neg h0] at h ⊢
    cases hx : firstBad base s with
    | some i => simp only
    | none =>
      rw [hx] at h
      simp only at h ⊢
      by_cases ho : 18446744073709551616 ≤ numTo base s s.size ∨ most < numTo base s s.size
      · rw [if_pos ho]
      · rw [if_neg ho] at h
        exact absurd rfl h

/-- The byte of the escape at a place. -/
def escRes (s : ByteArray) (i : Nat) : Nat × Nat × Nat := numRes (s.extract (i + 1) (i + 3)) 16 255
def escOk (s : ByteArray) (i : Nat) : Bool := decide (i + 3 ≤ s.size) && decide ((escRes s i).2.1 = 0)
def escC (s : ByteArray) (i : Nat) : UInt8 := UInt8.ofNat (escRes s i).1
theorem escC_nat {s : ByteArray} {i : Nat} (h : escOk s i = true) : (escC s i).toNat = (escRes s i).1 := by
  unfold escOk at h
  rw [Bool.and_eq_true, decide_eq_true_iff, decide_eq_true_iff] at h
  have := numRes_most _ _ _ h.2
  unfold escC
  rw [UInt8.toNat_ofNat']
  exact Nat.mod_eq_of_lt (by unfold escRes at *; omega)

/-- What is told of a text from a place on: its bytes in order, and whether they are escapes; the place of the first escape that isn't right. -/
def toldFrom (s : ByteArray) : Nat → Nat → List (UInt8 × Bool) × Option Nat
  | 0, _ => ([], none)
  | f + 1, i => if i < s.size then (if (byteAt s i).toNat = 37 then (if escOk s i = true then ((escC s i, true) :: (toldFrom s f (i + 3)).1, (toldFrom s f (i + 3)).2) else ([], some i)) else ((byteAt s i, false) :: (toldFrom s f (i + 1)).1, (toldFrom s f (i + 1)).2)) else ([], none)
def told (s : ByteArray) : List (UInt8 × Bool) × Option Nat := toldFrom s s.size 0
/-- So much has been told, up to a place. -/
def Told (s : ByteArray) (l : List (UInt8 × Bool)) (i : Nat) : Prop := ∃ f, s.size - i ≤ f ∧ l.length ≤ i ∧ told s = (l ++ (toldFrom s f i).1, (toldFrom s f i).2)
theorem Told.zero (s : ByteArray) : Told s [] 0 := ⟨s.size, by omega, by simp, by simp [told]⟩
theorem Told.plain {s : ByteArray} {l : List (UInt8 × Bool)} {i : Nat} (h : Told s l i) (hi : i < s.size) (hc : (byteAt s i).toNat ≠ 37) : Told s (l ++ [(byteAt s i, false)]) (i + 1) := by
  obtain ⟨f, hf, hl, e⟩ := h
  cases f with
  | zero => omega
  | succ f =>
    rw [toldFrom, if_pos hi, if_neg hc] at e
    exact ⟨f, by omega, by simp; omega, by simpa using e⟩
theorem Told.esc {s : ByteArray} {l : List (UInt8 × Bool)} {i : Nat} (h : Told s l i) (hi : i < s.size) (hc : (byteAt s i).toNat = 37) (ho : escOk s i = true) : Told s (l ++ [(escC s i, true)]) (i + 3) := by
  obtain ⟨f, hf, hl, e⟩ := h
  cases f with
  | zero => omega
  | succ f =>
    rw [toldFrom, if_pos hi, if_pos hc, if_pos ho] at e
    exact ⟨f, by omega, by simp; omega, by simpa using e⟩
theorem Told.bad {s : ByteArray} {l : List (UInt8 × Bool)} {i : Nat} (h : Told s l i) (hi : i < s.size) (hc : (byteAt s i).toNat = 37) (ho : escOk s i = false) : told s = (l, some i) := by
  obtain ⟨f, hf, hl, e⟩ := h
  cases f with
  | zero => omega
  | succ f =>
    rw [toldFrom, if_pos hi, if_pos hc, if_neg (by simp [ho])] at e
    simpa using e
theorem Told.done {s : ByteArray} {l : List (UInt8 × Bool)} {i : Nat} (h : Told s l i) (hi : ¬ i < s.size) : told s = (l, none) := by
  obtain ⟨f, hf, hl, e⟩ := h
  cases f with
  | zero => rw [toldFrom] at e; simpa using e
  | succ f =>
    rw [toldFrom, if_neg hi] at e
    simpa using e
theorem escOk_le {s : ByteArray} {i : Nat} (h : escOk s i = true) : i + 3 ≤ s.size := by
  unfold escOk at h
  rw [Bool.and_eq_true, decide_eq_true_iff] at h
  exact h.1
theorem Told.len {s : ByteArray} {l : List (UInt8 × Bool)} {i : Nat} (h : Told s l i) : l.length ≤ i := by
  obtain ⟨_, _, h, _⟩ := h
  exact h

def unresN (n : Nat) : Bool := decide (97 ≤ n ∧ n ≤ 122) || (decide (65 ≤ n ∧ n ≤ 90) || (decide (48 ≤ n ∧ n ≤ 57) || decide (n = 45 ∨ n = 46 ∨ n = 95 ∨ n = 126)))
/-- Is a byte unreserved? -/
def unres (c : UInt8) : Bool := unresN c.toNat
/-- A byte as an escape. -/
def escW (c : UInt8) : List UInt8 := 37 :: digs 16 2 c.toNat
/-- A byte of a text in its normal form. -/
def normC (x : UInt8 × Bool) : List UInt8 := if x.2 = true ∧ unres x.1 = false then escW x.1 else [x.1]
def normL (l : List (UInt8 × Bool)) : List UInt8 := l.flatMap normC
def keepB (keep : ByteArray) (c : UInt8) : Bool := unres c || (decide (c.toNat ≠ 37) && hasB keep c)
def encC (keep : ByteArray) (c : UInt8) : List UInt8 := if keepB keep c = true then [c] else escW c
end Go.Proofs.YtajpbfffpnbhpaaDoor
