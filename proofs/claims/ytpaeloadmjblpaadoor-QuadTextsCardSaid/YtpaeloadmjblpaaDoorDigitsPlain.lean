/- Plain facts on a number's digits. -/
import Derived.Test.YtpaeloadmjblpaaDoorNumber
namespace Go.Proofs.YtpaeloadmjblpaaDoor

/-- The figure of a digit. -/
def figN (d : Nat) : Nat := if d < 10 then 48 + d else 55 + d
/-- The k lowest digits of n, the highest first. -/
def digs (base : Nat) : Nat → Nat → List UInt8
  | 0, _ => []
  | k + 1, n => digs base k (n / base) ++ [UInt8.ofNat (figN (n % base))]
/-- How many digits n has; 0 has none. -/
def ndigs (base : Nat) : Nat → Nat → Nat
  | 0, _ => 0
  | f + 1, n => if n = 0 then 0 else ndigs base f (n / base) + 1

theorem digs_length (base k n : Nat) : (digs base k n).length = k := by
  induction k generalizing n with
  | zero => rfl
  | succ k ih => simp [digs, ih]

/-- One digit more, at the head. -/
theorem digs_head (base : Nat) (k n : Nat) : digs base (k + 1) n = UInt8.ofNat (figN (n / base ^ k % base)) :: digs base k n := by
  induction k generalizing n with
  | zero => simp [digs]
  | succ k ih =>
    rw [digs, ih (n / base), digs, Nat.div_div_eq_div_mul, ← Nat.pow_succ', List.cons_append]

theorem figN_lt (d : Nat) (h : d < 16) : figN d < 256 := by unfold figN; split <;> omega
theorem valN_figN (d : Nat) (h : d < 16) : valN (figN d) = d := by
  unfold figN valN
  by_cases h1 : d < 10
  · rw [if_pos h1, if_pos (by omega)]; omega
  · rw [if_neg h1, if_neg (by omega), if_neg (by omega), if_pos (by omega)]; omega
theorem valN_fig (d : Nat) (h : d < 16) : valN (UInt8.ofNat (figN d)).toNat = d := by
  rw [UInt8.toNat_ofNat_of_lt' (figN_lt d h), valN_figN d h]

/-- The number that a list of bytes gives. -/
def numL (base : Nat) (l : List UInt8) : Nat := l.foldl (fun n c => n * base + valN c.toNat) 0

theorem numTo_numL (base : Nat) (s : ByteArray) (k : Nat) (hk : k ≤ s.size) : numTo base s k = numL base (s.data.toList.take k) := by
  induction k with
  | zero => simp [numTo, numL]
  | succ k ih =>
    have hl : s.data.toList.length = s.size := rfl
    have ht : s.data.toList.take (k + 1) = s.data.toList.take k ++ [byteAt s k] := by
      rw [List.take_succ_eq_append_getElem (by omega)]
      simp [byteAt, List.getD, hl, show k < s.size from hk]
    rw [numTo, ih (by omega), ht]
    simp [numL, List.foldl_append]

theorem numL_digs (base : Nat) (hb : 2 ≤ base) (hb2 : base ≤ 16) (k n : Nat) (h : n < base ^ k) : numL base (digs base k n) = n := by
  induction k generalizing n with
  | zero => simp at h; subst h; rfl
  | succ k ih =>
    have hm : n % base < 16 := Nat.lt_of_lt_of_le (Nat.mod_lt _ (by omega)) hb2
    have hd : n / base < base ^ k := by
      rw [Nat.div_lt_iff_lt_mul (by omega), ← Nat.pow_succ]
      exact h
    rw [digs, numL, List.foldl_append]
    simp only [List.foldl_cons, List.foldl_nil]
    have := ih (n / base) hd
    rw [numL] at this
    rw [this, valN_fig _ hm]
    have := Nat.div_add_mod n base
    rw [Nat.mul_comm] at this
    exact this

theorem digs_small (base : Nat) (hb : 2 ≤ base) (hb2 : base ≤ 16) (k n : Nat) : ∀ c, c ∈ digs base k n → valN c.toNat < base := by
  induction k generalizing n with
  | zero => intro c hc; simp [digs] at hc
  | succ k ih =>
    intro c hc
    rw [digs, List.mem_append] at hc
    rcases hc with hc | hc
    · exact ih _ c hc
    · simp at hc
      subst hc
      rw [valN_fig _ (Nat.lt_of_lt_of_le (Nat.mod_lt _ (by omega)) hb2)]
      exact Nat.mod_lt _ (by omega)

theorem numRes_digs (base : Nat) (hb : 2 ≤ base) (hb2 : base ≤ 16) (k n : Nat) (hk : 0 < k) (h : n < base ^ k) (hn : n < 18446744073709551616) :
    numRes ⟨(digs base k n).toArray⟩ base 18446744073709551615 = (n, 0, 0) := by
  have hsz : (⟨(digs base k n).toArray⟩ : ByteArray).size = k := by
    show (digs base k n).toArray.size = k
    simp [digs_length]
  have hN : numTo base ⟨(digs base k n).toArray⟩ k = n := by
    rw [numTo_numL _ _ _ (by omega)]
    show numL base ((digs base k n).toArray.toList.take k) = n
    rw [List.toList_toArray, List.take_of_length_le (by simp [digs_length]), numL_digs base hb hb2 k n h]
  rw [numRes, if_neg (by omega), firstBad_none]
  · rw [hsz, hN]
    exact if_neg (by omega)
  · intro j hj
    rw [hsz] at hj
    refine digs_small base hb hb2 k n _ ?_
    have hl : j < (digs base k n).length := by rw [digs_length]; exact hj
    show (digs base k n).toArray.toList.getD j 0 ∈ digs base k n
    rw [List.toList_toArray, List.getD, List.getElem?_eq_getElem hl]
    exact List.getElem_mem hl

/-- When the digits are all told. -/
theorem ndigs_lt (base : Nat) (hb : 2 ≤ base) (f n : Nat) (h : n < base ^ f) : n < base ^ ndigs base f n := by
  induction f generalizing n with
  | zero => simpa [ndigs] using h
  | succ f ih =>
    rw [ndigs]
    by_cases h0 : n = 0
    · rw [if_pos h0, h0]; exact Nat.pow_pos (by omega)
    · rw [if_neg h0, Nat.pow_succ, ← Nat.div_lt_iff_lt_mul (by omega)]
      exact ih (n / base) (by rw [Nat.div_lt_iff_lt_mul (by omega), ← Nat.pow_succ]; exact h)
theorem ndigs_le (base f n : Nat) : ndigs base f n ≤ f := by
  induction f generalizing n with
  | zero => simp [ndigs]
  | succ f ih =>
    rw [ndigs]
    split
    · omega
    · have := ih (n / base); omega
/-- Below their number there is something left, from it on nothing. -/
theorem ndigs_pos (base : Nat) (hb : 2 ≤ base) (f n j : Nat) (h : n < base ^ f) : 0 < n / base ^ j ↔ j < ndigs base f n := by
  induction f generalizing n j with
  | zero => simp at h; subst h; simp [ndigs]
  | succ f ih =>
    rw [ndigs]
    by_cases h0 : n = 0
    · rw [if_pos h0, h0]; simp
    · rw [if_neg h0]
      cases j with
      | zero => simp; omega
      | succ j =>
        rw [Nat.pow_succ', ← Nat.div_div_eq_div_mul, ih (n / base) j (by rw [Nat.div_lt_iff_lt_mul (by omega), ← Nat.pow_succ]; exact h)]
        omega
/-- Noughts ahead. -/
theorem digs_pad (base : Nat) (k n : Nat) (h : n < base ^ k) : digs base (k + 1) n = 48 :: digs base k n := by
  rw [digs_head, Nat.div_eq_of_lt h]
  simp [figN]
end Go.Proofs.YtpaeloadmjblpaaDoor
