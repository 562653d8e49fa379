/- Plain facts on a number's digits. -/
import Derived.Test.YtameipbnobaoeaaDoorHexadMappedM1
import Derived.Laws.BitsLemmas
import Derived.Lib.SplitLaws
import Derived.Lib.IndexBytes
import Derived.Lib.IndexLaws
import Derived.Lib.Join

namespace Go.Proofs.YtameipbnobaoeaaDoor

/-- The figure of a digit. -/
def figN (d : Nat) : Nat := if d < 10 then 48 + d else 55 + d
/-- The k lowest digits of n, the highest first. -/
def digs (base : Nat) : Nat → Nat → List UInt8
  | 0, _ => []
  | k + 1, n => digs base k (n / base) ++ [UInt8.ofNat (figN (n % base))]
/-- How many digits n has; 0 has none. -/
def ndigs (base : Nat) : Nat → Nat → Nat
  | 0, _ => 0
  | f + 1, n => if n = 0 then 0 else ndigs base f (n / base) + 1

theorem digs_length (base k n : Nat) : (digs base k n).length = k := by
  induction k generalizing n with
  | zero => rfl
  | succ k ih => simp [digs, ih]

/-- One digit more, at the head. -/
theorem digs_head (base : Nat) (k n : Nat) : digs base (k + 1) n = UInt8.ofNat (figN (n / base ^ k % base)) :: digs base k n := by
  induction k generalizing n with
  | zero => simp [digs]
  | succ k ih =>
    rw [digs, ih (n / base), digs, Nat.div_div_eq_div_mul, ← Nat.pow_succ', List.cons_append]

theorem figN_lt (d : Nat) (h : d < 16) : figN d < 256 := by unfold figN; split <;> omega
theorem valN_figN (d : Nat) (h : d < 16) : valN (figN d) = d := by
  unfold figN valN
  by_cases h1 : d < 10
  · rw [if_pos h1, if_pos (by omega)]; omega
  · rw [if_neg h1, if_neg (by omega), if_neg (by omega), if_pos (by omega)]; omega
theorem valN_fig (d : Nat) (h : d < 16) : valN (UInt8.ofNat (figN d)).toNat = d := by
  rw [UInt8.toNat_ofNat_of_lt' (figN_lt d h), valN_figN d h]

/-- The number that a list of bytes gives. -/
def numL (base : Nat) (l : List UInt8) : Nat := l.foldl (fun n c => n * base + valN c.toNat) 0

theorem numTo_numL (base : Nat) (s : ByteArray) (k : Nat) (hk : k ≤ s.size) : numTo base s k = numL base (s.data.toList.take k) := by
  induction k with
  | zero => simp [numTo, numL]
  | succ k ih =>
    have hl : s.data.toList.length = s.size := rfl
    have ht : s.data.toList.take (k + 1) = s.data.toList.take k ++ [byteAt s k] := by
      rw [List.take_succ_eq_append_getElem (by omega)]
      simp [byteAt, List.getD, hl, show k < s.size from hk]
    rw [numTo, ih (by omega), ht]
    simp [numL, List.foldl_append]

theorem numL_digs (base : Nat) (hb : 2 ≤ base) (hb2 : base ≤ 16) (k n : Nat) (h : n < base ^ k) : numL base (digs base k n) = n := by
  induction k generalizing n with
  | zero => simp at h; subst h; rfl
  | succ k ih =>
    have hm : n % base < 16 := Nat.lt_of_lt_of_le (Nat.mod_lt _ (by omega)) hb2
    have hd : n / base < base ^ k := by
      rw [Nat.div_lt_iff_lt_mul (by omega), ← Nat.pow_succ]
      exact h
    rw [digs, numL, List.foldl_append]
    simp only [List.foldl_cons, List.foldl_nil]
    have := ih (n / base) hd
    rw [numL] at this
    rw [this, valN_fig _ hm]
    have := Nat.div_add_mod n base
    rw [Nat.mul_comm] at this
    exact this

theorem digs_small (base : Nat) (hb : 2 ≤ base) (hb2 : base ≤ 16) (k n : Nat) : ∀ c, c ∈ digs base k n → valN c.toNat < base := by
  induction k generalizing n with
  | zero => intro c hc; simp [digs] at hc
  | succ k ih =>
    intro c hc
    rw [digs, List.mem_append] at hc
    rcases hc with hc | hc
    · exact ih _ c hc
    · simp at hc
      subst hc
      rw [valN_fig _ (Nat.lt_of_lt_of_le (Nat.mod_lt _ (by omega)) hb2)]
      exact Nat.mod_lt _ (by omega)

theorem numRes_digs (base : Nat) (hb : 2 ≤ base) (hb2 : base ≤ 16) (k n : Nat) (hk : 0 < k) (h : n < base ^ k) (hn : n < 18446744073709551616) :
    numRes ⟨(digs base k n).toArray⟩ base 18446744073709551615 = (n, 0, 0) := by
  have hsz : (⟨(digs base k n).toArray⟩ : ByteArray).size = k := by
    show (digs base k n).toArray.size = k
    simp [digs_length]
  have hN : numTo base ⟨(digs base k n).toArray⟩ k = n := by
    rw [numTo_numL _ _ _ (by omega)]
    show numL base ((digs base k n).toArray.toList.take k) = n
    rw [List.toList_toArray, List.take_of_length_le (by simp [digs_length]), numL_digs base hb hb2 k n h]
  rw [numRes, if_neg (by omega), firstBad_none]
  · rw [hsz, hN]
    exact if_neg (by omega)
  · intro j hj
    rw [hsz] at hj
    refine digs_small base hb hb2 k n _ ?_
    have hl : j < (digs base k n).length := by rw [digs_length]; exact hj
    show (digs base k n).toArray.toList.getD j 0 ∈ digs base k n
    rw [List.toList_toArray, List.getD, List.getElem?_eq_getElem hl]
    exact List.getElem_mem hl

/-- When the digits are all told. -/
theorem ndigs_lt (base : Nat) (hb : 2 ≤ base) (f n : Nat) (h : n < base ^ f) : n < base ^ ndigs base f n := by
  induction f generalizing n with
  | zero => simpa [ndigs] using h
  | succ f ih =>
    rw [ndigs]
    by_cases h0 : n = 0
    · rw [if_pos h0, h0]; exact Nat.pow_pos (by omega)
    · rw [if_neg h0, Nat.pow_succ, ← Nat.div_lt_iff_lt_mul (by omega)]
      exact ih (n / base) (by rw [Nat.div_lt_iff_lt_mul (by omega), ← Nat.pow_succ]; exact h)
theorem ndigs_le (base f n : Nat) : ndigs base f n ≤ f := by
  induction f generalizing n with
  | zero => simp [ndigs]
  | succ f ih =>
    rw [ndigs]
    split
    · omega
    · have := ih (n / base); omega
/-- Below their number there is something left, from it on nothing. -/
theorem ndigs_pos (base : Nat) (hb : 2 ≤ base) (f n j : Nat) (h : n < base ^ f) : 0 < n / base ^ j ↔ j < ndigs base f n := by
  induction f generalizing n j with
  | zero => simp at h; subst h; simp [ndigs]
  | succ f ih =>
    rw [ndigs]
    by_cases h0 : n = 0
    · rw [if_pos h0, h0]; simp
    · rw [if_neg h0]
      cases j with
      | zero => simp; omega
      | succ j =>
        rw [Nat.pow_succ', ← Nat.div_div_eq_div_mul, ih (n / base) j (by rw [Nat.div_lt_iff_lt_mul (by omega), ← Nat.pow_succ]; exact h)]
        omega
/-- Noughts ahead. -/
theorem digs_pad (base : Nat) (k n : Nat) (h : n < base ^ k) : digs base (k + 1) n = 48 :: digs base k n := by
  rw [digs_head, Nat.div_eq_of_lt h]
  simp [figN]
end Go.Proofs.YtameipbnobaoeaaDoor

/- fold.written: a number's digits of a base, at least so many. -/
namespace Go.Proofs.YtameipbnobaoeaaDoor
open Go.RowKit

/-- A number's digits, at least so many. -/
def writ (base n width : Nat) : List UInt8 := digs base (max (ndigs base 64 n) (max width 1)) n

theorem fig_at (i : Nat) (h : i < 16) : (⟨#[48, 49, 50, 51, 52, 53, 54, 55, 56, 57, 65, 66, 67, 68, 69, 70]⟩ : ByteArray)[i]'h = UInt8.ofNat (figN i) := by
  have : ∀ i : Fin 16, (⟨#[48, 49, 50, 51, 52, 53, 54, 55, 56, 57, 65, 66, 67, 68, 69, 70]⟩ : ByteArray)[i.1]'i.2 = UInt8.ofNat (figN i.1) := by decide
  exact this ⟨i, h⟩

theorem arr64 : Tryd.prog.arrayLen 85 = 64 := by kernel_rfl
theorem elem64 : Tryd.prog.elem 85 = 5 := by kernel_rfl
theorem slice64 (g j : Nat) (hj : 1 ≤ j) (hj2 : j ≤ 64) (w : World) : (Instr.sliceAt 85 (.pointer (some ⟨g, 0, none⟩)) (some (.int .i64 (64 - (j : Int)))) none none).run Tryd.prog w = .ok (.slice (some ⟨g, 64 - j, none⟩) j j) w := by
  have ht : Tryd.prog.underlying 85 = some (.array (Tryd.prog.arrayLen 85) (Tryd.prog.elem 85)) := by kernel_rfl
  have hs : (sizeOf 5).run Tryd.prog w = .ok 1 w := by kernel_rfl
  rw [run_sliceAt_array_l w _ _ ht _ _ (by omega) (by rw [arr64]; omega), elem64, hs, arr64]
  simp only [Result.andThen, slicedAt]
  have e : (64 - (j : Int)).toNat = 64 - j := by omega
  rw [e, if_neg (by omega), Addr.add_lit]
  have e2 : 64 - (64 - j) = j := by omega
  rw [e2]
  simp

theorem set_mid {α : Type} (z b : α) (r : Nat) (D : List α) : (List.replicate (r + 1) z ++ D).set r b = List.replicate r z ++ (b :: D) := by
  induction r with
  | zero => simp
  | succ r ih => rw [List.replicate_succ, List.cons_append, List.set_cons_succ, ih, List.replicate_succ, List.cons_append]

theorem writ_step {w : World} {g j base n m : Nat} (hB : BytesAt w g (List.replicate (64 - j) 0 ++ digs base j n)) (hj : j < 64) (hm : n / base ^ j = m) (b : UInt8) (hb : b = UInt8.ofNat (figN (m % base))) :
    BytesAt (w.setCell ⟨g, 64 - j - 1, none⟩ (.int .u8 (b.toNat : Int))) g (List.replicate (64 - (j + 1)) 0 ++ digs base (j + 1) n) := by
  have h := hB.store (k := 64 - j - 1) (by simp [digs_length]; omega) b
  have e : 64 - j = (64 - (j + 1)) + 1 := by omega
  have e2 : 64 - j - 1 = 64 - (j + 1) := by omega
  rw [digs_head, hm, ← hb, ← set_mid, ← e, ← e2]
  exact h

theorem writ_end {w : World} {g j base n : Nat} (hB : BytesAt w g (List.replicate (64 - j) 0 ++ digs base j n)) (hj : 1 ≤ j) (hj2 : j ≤ 64) :
    (∀ w' : World, (Instr.sliceAt 85 (.pointer (some ⟨g, 0, none⟩)) (some (.int .i64 (64 - (j : Int)))) none none).run Tryd.prog w' = .ok (.slice (some ⟨g, 64 - j, none⟩) j j) w') ∧
    (convert 55 9 (.slice (some ⟨g, 64 - j, none⟩) j j)).run Tryd.prog w = .ok (.string ⟨(digs base j n).toArray⟩) w :=
  ⟨slice64 g j hj hj2, run_back_at w _ _ 5 g (64 - j) j j (List.replicate (64 - j) 0) (digs base j n) (by simp) (digs_length _ _ _) Tryd.underlying55 Tryd.underlying5 Tryd.underlying9 hB⟩

set_option maxHeartbeats 1600000 in
set_option maxRecDepth 100000 in
theorem fold_written (n base : Nat) (width : Int) (w : World) (hn : n < 18446744073709551616) (hb : 2 ≤ base) (hb2 : base ≤ 16) (hw : width ≤ 16) (hw2 : -9223372036854775808 ≤ width) :
    Calls Tryd.prog 30 #[.int .u64 (n : Int), .int .u64 (base : Int), .int .i64 width] w fun e w' => e = .returned (.string ⟨(writ base n width.toNat).toArray⟩) ∧ Below w.heap.size w w' := by
  go_enter Tryd.func30, Tryd.ntmps30
  go_wp2_with fail
  have hB0 : BytesAt (w.alloc (.cells (List.replicate 64 (Value.int .u8 0)).toArray 85)) w.heap.size (List.replicate (64 - 0) 0 ++ digs base 0 n) :=
    ⟨85, [], 0, 0, .inl (Nat.le_refl _), heap_alloc_new w _⟩
  have hb0 : Below w.heap.size w (w.alloc (.cells (List.replicate 64 (Value.int .u8 0)).toArray 85)) := (Below.refl _ _).alloc (Nat.le_refl _) _
  have hJ0 : ndigs base 64 n ≤ 64 := ndigs_le _ _ _
  have hJp := ndigs_pos base hb 64 n
  have h64 : n < base ^ 64 := Nat.lt_of_lt_of_le hn (Nat.le_trans (by decide) (Nat.pow_le_pow_left hb 64))
  go_loopw [0, 8] (fun m a wr => ∃ j : Nat, j ≤ max (ndigs base 64 n) (max width.toNat 1) ∧ a = .int .i64 (64 - (j : Int)) ∧ m = .int .u64 ((n / base ^ j : Nat) : Int) ∧
      BytesAt wr w.heap.size (List.replicate (64 - j) 0 ++ digs base j n) ∧ Below w.heap.size w wr)
    (fun _ a _ => (intOf a).toNat)
  case atStart => exact ⟨0, Nat.zero_le _, rfl, by simp, hB0, hb0⟩
  case round =>
    obtain ⟨j, hj, rfl, rfl, hB, hbr⟩ := hrel
    have hp := hJp j h64
    generalize hm : n / base ^ j = m at *
    have HM := Lib.hid hm
    clear hm hJp hB0 hb0 h64
    have hml : m < 18446744073709551616 := by rw [← HM.out]; exact Nat.lt_of_le_of_lt (Nat.div_le_self _ _) hn
    have hr0 : (0 : Int) ≤ (m : Int) % (base : Int) := Int.emod_nonneg _ (by omega)
    have hr1 : (m : Int) % (base : Int) < 16 := Int.lt_of_lt_of_le (Int.emod_lt_of_pos _ (by omega)) (by omega)
    have hq0 : (0 : Int) ≤ (m : Int) / (base : Int) := Int.ediv_nonneg (by omega) (by omega)
    have hq1 : (m : Int) / (base : Int) ≤ (m : Int) := Int.ediv_le_self _ (by omega)
    by_cases h1 : 0 < m
    · have hj63 : j < 64 := by omega
      have hcell := hB.cell (k := 64 - j - 1) (by simp [digs_length]; omega)
      have hfr := hB.frozen (k := 64 - j - 1) (by simp [digs_length]; omega)
      generalize hv : (List.replicate (64 - j) 0 ++ digs base j n).getD (64 - j - 1) 0 = v0 at hcell
      clear hv
      have hst := fun b hb => writ_step hB hj63 HM.out b hb
      have HST := Lib.hid hst
      clear hst hB
      go_wp2_with fail
      go_roundw
      case rel => exact ⟨j + 1, by omega, by go_num, by rw [Nat.pow_succ, ← Nat.div_div_eq_div_mul, HM.out]; rfl, HST.out _ (fig_at _ (by omega)), hbr.setCell (Nat.le_refl _) _⟩
      case measure => simp [intOf]; omega
    · obtain rfl : m = 0 := by omega
      by_cases hw1 : width < 1
      · by_cases hj1 : j < 1
        · have hj63 : j < 64 := by omega
          have hcell := hB.cell (k := 64 - j - 1) (by simp [digs_length]; omega)
          have hfr := hB.frozen (k := 64 - j - 1) (by simp [digs_length]; omega)
          generalize hv : (List.replicate (64 - j) 0 ++ digs base j n).getD (64 - j - 1) 0 = v0 at hcell
          clear hv
          have hst := fun b hb => writ_step hB hj63 HM.out b hb
          have HST := Lib.hid hst
          clear hst hB
          go_wp2_with fail
          go_roundw
          case rel => exact ⟨j + 1, by omega, by go_num, by rw [Nat.pow_succ, ← Nat.div_div_eq_div_mul, HM.out]; simp, HST.out _ (by simp [figN]; rfl), hbr.setCell (Nat.le_refl _) _⟩
          case measure => simp [intOf]; omega
        · obtain ⟨hsl, hcv⟩ := writ_end hB (by omega : 1 ≤ j) (by omega)
          have hJ : j = max (ndigs base 64 n) (max width.toNat 1) := by omega
          have HJ := Lib.hid hJ
          clear hJ
          go_wp2_with fail
          go_ret
          exact ⟨ret_str (by rw [writ, ← HJ.out]), hbr⟩
      · by_cases hj1 : (j : Int) < width
        · have hj63 : j < 64 := by omega
          have hcell := hB.cell (k := 64 - j - 1) (by simp [digs_length]; omega)
          have hfr := hB.frozen (k := 64 - j - 1) (by simp [digs_length]; omega)
          generalize hv : (List.replicate (64 - j) 0 ++ digs base j n).getD (64 - j - 1) 0 = v0 at hcell
          clear hv
          have hst := fun b hb => writ_step hB hj63 HM.out b hb
          have HST := Lib.hid hst
          clear hst hB
          go_wp2_with fail
          go_roundw
          case rel => exact ⟨j + 1, by omega, by go_num, by rw [Nat.pow_succ, ← Nat.div_div_eq_div_mul, HM.out]; simp, HST.out _ (by simp [figN]; rfl), hbr.setCell (Nat.le_refl _) _⟩
          case measure => simp [intOf]; omega
        · obtain ⟨hsl, hcv⟩ := writ_end hB (by omega : 1 ≤ j) (by omega)
          have hJ : j = max (ndigs base 64 n) (max width.toNat 1) := by omega
          have HJ := Lib.hid hJ
          clear hJ
          go_wp2_with fail
          go_ret
          exact ⟨ret_str (by rw [writ, ← HJ.out]), hbr⟩

theorem fold_Digits (n : Nat) (w : World) (hn : n < 18446744073709551616) :
    Calls Tryd.prog 59 #[.int .u64 (n : Int)] w fun e w' => e = .returned (.string ⟨(writ 10 n 1).toArray⟩) ∧ Below w.heap.size w w' := by
  go_enter Tryd.func59, Tryd.ntmps59
  go_wp2_with fail
  refine (fold_written n 10 1 _ hn (by omega) (by omega) (by omega) (by omega)).mono ?_
  rintro e w1 ⟨rfl, hb1⟩
  go_wp2_with fail
  go_ret
  exact ⟨rfl, hb1⟩
theorem fold_HexDigits (n : Nat) (width : Int) (w : World) (hn : n < 18446744073709551616) (hw2 : -9223372036854775808 ≤ width) :
    Calls Tryd.prog 21 #[.int .u64 (n : Int), .int .i64 width] w fun e w' => e = .returned (.string ⟨(writ 16 n (min width 16).toNat).toArray⟩) ∧ Below w.heap.size w w' := by
  have h1 : min width 16 ≤ 9223372036854775807 := by omega
  have h2 : -9223372036854775808 ≤ min width 16 := by omega
  go_enter Tryd.func21, Tryd.ntmps21
  go_wp2_with fail
  refine (fold_written n 16 (min width 16) _ hn (by omega) (by omega) (by omega) (by omega)).mono ?_
  rintro e w1 ⟨rfl, hb1⟩
  go_wp2_with fail
  go_ret
  exact ⟨rfl, hb1⟩
end Go.Proofs.YtameipbnobaoeaaDoor

/- The reference's Small. -/
namespace Go.Proofs.YtameipbnobaoeaaDoor
open Go.RowKit

def smallN (n : Nat) : Nat := if 65 ≤ n ∧ n ≤ 90 then n + 32 else n
theorem ret_u8 {a b : Int} (h : a = b) : Ending.returned (.int .u8 a) = .returned (.int .u8 b) := by rw [h]
theorem ref_Small (n : Nat) (hn : n < 256) (w : World) : Calls Tryd.prog 29 #[.int .u8 (n : Int)] w fun e w' => e = .returned (.int .u8 (smallN n : Nat)) ∧ w = w' := by
  by_cases h1 : 65 ≤ n
  · by_cases h2 : n ≤ 90
    · have hv := Lib.hid (show smallN n = n + 32 by unfold smallN; rw [if_pos ⟨h1, h2⟩])
      go_enter Tryd.func29, Tryd.ntmps29
      go_wp2
      go_ret
      exact ⟨ret_u8 (by rw [hv.out]; omega), rfl⟩
    · have hv := Lib.hid (show smallN n = n by unfold smallN; rw [if_neg (by omega)])
      go_enter Tryd.func29, Tryd.ntmps29
      go_wp2
      go_ret
      exact ⟨ret_u8 (by rw [hv.out]), rfl⟩
  · have hv := Lib.hid (show smallN n = n by unfold smallN; rw [if_neg (by omega)])
    go_enter Tryd.func29, Tryd.ntmps29
    go_wp2
    go_ret
    exact ⟨ret_u8 (by rw [hv.out]), rfl⟩
end Go.Proofs.YtameipbnobaoeaaDoor

/- Plain facts: small letters. -/
namespace Go.Proofs.YtameipbnobaoeaaDoor
open Go.RowKit

def lowerB (b : UInt8) : UInt8 := if 65 ≤ b.toNat ∧ b.toNat ≤ 90 then b + 32 else b
theorem lowerB_nat (b : UInt8) : (lowerB b).toNat = smallN b.toNat := by
  have hb := b.toNat_lt
  unfold lowerB smallN
  split
  · rw [UInt8.toNat_add]
    simp
    omega
  · rfl
theorem lowerB_idem (b : UInt8) : lowerB (lowerB b) = lowerB b := by
  have h := lowerB_nat b
  apply UInt8.toNat_inj.1
  rw [lowerB_nat, h]
  unfold smallN
  repeat' split
  all_goals omega
theorem or_letter (n : Nat) (h1 : 65 ≤ n) (h2 : n ≤ 90) : bits .or .u8 (n : Int) 32 = ((n + 32 : Nat) : Int) := by
  have : ∀ n : Fin 91, 65 ≤ n.1 → bits .or .u8 (n.1 : Int) 32 = ((n.1 + 32 : Nat) : Int) := by decide +kernel
  exact this ⟨n, by omega⟩ h1
/-- A text with small letters. -/
def lowerL (l : List UInt8) : List UInt8 := l.map lowerB
def lowerS (s : ByteArray) : ByteArray := ⟨(lowerL s.data.toList).toArray⟩
theorem lowerS_size (s : ByteArray) : (lowerS s).size = s.size := by
  show (lowerL s.data.toList).toArray.size = s.data.toList.length
  simp [lowerL]
theorem lowerS_idem (s : ByteArray) : lowerS (lowerS s) = lowerS s := by
  unfold lowerS lowerL
  apply ByteArray.ext
  apply Array.ext'
  show (s.data.toList.map lowerB).map lowerB = s.data.toList.map lowerB
  rw [List.map_map]
  exact List.map_congr_left fun x _ => lowerB_idem x
/-- So far small letters. -/
def lowTo (s : ByteArray) (i : Nat) : List UInt8 := lowerL (s.data.toList.take i) ++ s.data.toList.drop i
theorem lowTo_len (s : ByteArray) (i : Nat) : (lowTo s i).length = s.size := by
  have hl : s.data.toList.length = s.size := rfl
  simp [lowTo, lowerL]; omega
theorem lowTo_zero (s : ByteArray) : lowTo s 0 = s.data.toList := by simp [lowTo, lowerL]
theorem lowTo_all (s : ByteArray) : lowTo s s.size = (lowerS s).data.toList := by
  have hl : s.data.toList.length = s.size := rfl
  show lowerL (s.data.toList.take s.size) ++ s.data.toList.drop s.size = lowerL s.data.toList
  rw [List.take_of_length_le (by omega), List.drop_eq_nil_of_le (by omega), List.append_nil]
theorem lowTo_at {s : ByteArray} {i : Nat} (hi : i < s.size) : (lowTo s i).getD i 0 = byteAt s i := by
  have hl : s.data.toList.length = s.size := rfl
  have h1 : (lowerL (s.data.toList.take i)).length = i := by simp [lowerL]; omega
  unfold lowTo byteAt
  simp only [List.getD, List.getElem?_append, h1, Nat.lt_irrefl, if_false, Nat.sub_self, List.getElem?_drop, Nat.add_zero]
theorem lowTo_set {s : ByteArray} {i : Nat} (hi : i < s.size) : (lowTo s i).set i (lowerB (byteAt s i)) = lowTo s (i + 1) := by
  have hl : s.data.toList.length = s.size := rfl
  have hlt : i < s.data.toList.length := by omega
  have h1 : (lowerL (s.data.toList.take i)).length = i := by simp [lowerL]; omega
  have hb : byteAt s i = s.data.toList[i] := by unfold byteAt; rw [List.getD, List.getElem?_eq_getElem hlt]; rfl
  unfold lowTo
  rw [List.set_append_right _ _ (by rw [h1]; exact Nat.le_refl _), h1, Nat.sub_self, List.drop_eq_getElem_cons hlt, List.set_cons_zero, List.take_succ_eq_append_getElem hlt, hb]
  simp [lowerL]
theorem lowTo_keep {s : ByteArray} {i : Nat} (hi : i < s.size) (h : lowerB (byteAt s i) = byteAt s i) : lowTo s (i + 1) = lowTo s i := by
  rw [← lowTo_set hi, h]
  have h2 := lowTo_at hi
  have hll : i < (lowTo s i).length := by rw [lowTo_len]; exact hi
  apply List.ext_getElem?
  intro j
  rw [List.getElem?_set]
  split
  · rename_i e
    subst e
    rw [← h2, List.getD, List.getElem?_eq_getElem hll]; rfl
  · rfl
end Go.Proofs.YtameipbnobaoeaaDoor

/- A list cut at a mark: plain facts, in the forms that strings.Split and the reference's parts have. -/
namespace Go.Proofs.YtameipbnobaoeaaDoor

def splitL (c : UInt8) : List UInt8 → List (List UInt8)
  | [] => [[]]
  | x :: l => if x = c then [] :: splitL c l else match splitL c l with | [] => [[x]] | p :: ps => (x :: p) :: ps
theorem splitL_none (c : UInt8) : ∀ (a : List UInt8), (∀ x ∈ a, x ≠ c) → splitL c a = [a]
  | [], _ => rfl
  | x :: a, h => by
    have := splitL_none c a (fun y hy => h y (by simp [hy]))
    rw [splitL, if_neg (h x (by simp)), this]
theorem splitL_cut (c : UInt8) (b : List UInt8) : ∀ (a : List UInt8), (∀ x ∈ a, x ≠ c) → splitL c (a ++ c :: b) = a :: splitL c b
  | [], _ => by simp [splitL]
  | x :: a, h => by
    have := splitL_cut c b a (fun y hy => h y (by simp [hy]))
    rw [List.cons_append, splitL, if_neg (h x (by simp)), this]
theorem splitL_ne (c : UInt8) (l : List UInt8) : splitL c l ≠ [] := by
  cases l with
  | nil => simp [splitL]
  | cons x l =>
    rw [splitL]
    split
    · simp
    · split <;> simp
/-- A list without the mark, or the part ahead of the first one. -/
theorem first_cut (c : UInt8) : ∀ (l : List UInt8), (∀ x ∈ l, x ≠ c) ∨ ∃ a b, l = a ++ c :: b ∧ ∀ x ∈ a, x ≠ c
  | [] => .inl (by simp)
  | x :: l => by
    by_cases hx : x = c
    · exact .inr ⟨[], l, by simp [hx], by simp⟩
    · rcases first_cut c l with h | ⟨a, b, e, h⟩
      · exact .inl (by intro y hy; simp at hy; rcases hy with rfl | hy; exact hx; exact h y hy)
      · exact .inr ⟨x :: a, b, by simp [e], by intro y hy; simp at hy; rcases hy with rfl | hy; exact hx; exact h y hy⟩
theorem splitL_app (c : UInt8) (b : List UInt8) : ∀ (n : Nat) (a : List UInt8), a.length ≤ n → splitL c (a ++ c :: b) = splitL c a ++ splitL c b := by
  intro n
  induction n with
  | zero =>
    intro a h
    have : a = [] := List.eq_nil_of_length_eq_zero (by omega)
    subst this
    simp [splitL]
  | succ n ih =>
    intro a h
    rcases first_cut c a with h1 | ⟨x, y, e, h1⟩
    · rw [splitL_cut c b a h1, splitL_none c a h1]; rfl
    · subst e
      rw [List.append_assoc, List.cons_append, splitL_cut c _ x h1, ih y (by simp at h; omega), splitL_cut c _ x h1]
      rfl
theorem splitL_len (c : UInt8) : ∀ (n : Nat) (l : List UInt8), l.length ≤ n → ((splitL c l).map List.length).sum + (splitL c l).length = l.length + 1 := by
  intro n
  induction n with
  | zero =>
    intro l h
    have : l = [] := List.eq_nil_of_length_eq_zero (by omega)
    subst this
    simp [splitL]
  | succ n ih =>
    intro l h
    rcases first_cut c l with h1 | ⟨x, y, e, h1⟩
    · rw [splitL_none c l h1]; simp
    · subst e
      have := ih y (by simp at h; omega)
      rw [splitL_cut c _ x h1]
      simp only [List.map_cons, List.sum_cons, List.length_cons, List.length_append]
      omega
theorem split_index {c : UInt8} {a b : List UInt8} (h : ∀ x ∈ a, x ≠ c) : Lib.index (a ++ c :: b) [c] = (a.length : Int) := by
  rw [Lib.index_one]
  induction a with
  | nil => simp [Lib.indexByte]
  | cons x a ih =>
    have := ih (fun y hy => h y (by simp [hy]))
    rw [List.cons_append, Lib.indexByte, this]
    have hx := h x (by simp)
    simp [hx]
theorem split_index_none {c : UInt8} {a : List UInt8} (h : ∀ x ∈ a, x ≠ c) : Lib.index a [c] = -1 := by
  rw [Lib.index_one]
  induction a with
  | nil => simp [Lib.indexByte]
  | cons x a ih =>
    have := ih (fun y hy => h y (by simp [hy]))
    rw [Lib.indexByte, this]
    have hx := h x (by simp)
    simp [hx]
theorem splitK_is (c : UInt8) : ∀ (n : Nat) (l : List UInt8), l.length ≤ n → Lib.splitK [c] 0 (Lib.count l [c]) l = splitL c l := by
  intro n
  induction n with
  | zero =>
    intro l h
    have : l = [] := List.eq_nil_of_length_eq_zero (by omega)
    subst this
    rw [Lib.count_one]
    rfl
  | succ n ih =>
    intro l h
    rcases first_cut c l with h1 | ⟨x, y, e, h1⟩
    · have h0 : l.count c = 0 := List.count_eq_zero.2 (fun hm => h1 c hm rfl)
      rw [Lib.count_one, h0, splitL_none c l h1]; rfl
    · have hi := split_index (b := y) h1
      have h0 : x.count c = 0 := List.count_eq_zero.2 (fun hm => h1 c hm rfl)
      subst e
      have hc : Lib.count (x ++ c :: y) [c] = Lib.count y [c] + 1 := by
        rw [Lib.count_one, Lib.count_one, List.count_append, h0, List.count_cons_self]; omega
      have hy := ih y (by simp at h; omega)
      rw [hc, Lib.splitK, hi, splitL_cut c _ x h1, ← hy]
      have : ¬ ((x.length : Int) == -1) = true := by simp
      rw [if_neg this]
      simp
theorem splitB_is (c : UInt8) (s : ByteArray) : (Lib.splitB ⟨#[c]⟩ 0 (Lib.countB s ⟨#[c]⟩) s).map (·.data.toList) = splitL c s.data.toList := by
  rw [Lib.splitB_data]
  exact splitK_is c _ _ (Nat.le_refl _)
end Go.Proofs.YtameipbnobaoeaaDoor

/- Parts put together by a mark. -/
namespace Go.Proofs.YtameipbnobaoeaaDoor

def joinA (c : UInt8) : List (List UInt8) → List UInt8
  | [] => []
  | [p] => p
  | p :: q :: r => p ++ c :: joinA c (q :: r)
theorem joinA_lib (c : UInt8) : ∀ l, Lib.join l [c] = joinA c l := by
  intro l
  induction l with
  | nil => rfl
  | cons p l ih =>
    cases l with
    | nil => simp [Lib.join, joinA, List.intercalate]
    | cons q r =>
      have e : Lib.join (p :: q :: r) [c] = p ++ c :: Lib.join (q :: r) [c] := by simp [Lib.join, List.intercalate, List.intersperse]
      rw [e, ih]
      rfl
theorem joinA_snoc (c : UInt8) (p : List UInt8) : ∀ l, l ≠ [] → joinA c (l ++ [p]) = joinA c l ++ c :: p := by
  intro l
  induction l with
  | nil => intro h; exact absurd rfl h
  | cons q l ih =>
    intro _
    cases l with
    | nil => rfl
    | cons r l =>
      show q ++ c :: joinA c ((r :: l) ++ [p]) = q ++ c :: joinA c (r :: l) ++ c :: p
      rw [ih (by simp)]
      simp
theorem split_join (c : UInt8) : ∀ l : List (List UInt8), l ≠ [] → (∀ p ∈ l, ∀ x ∈ p, x ≠ c) → splitL c (joinA c l) = l := by
  intro l
  induction l with
  | nil => intro h; exact absurd rfl h
  | cons p l ih =>
    intro _ h
    cases l with
    | nil => exact splitL_none c p (h p (by simp))
    | cons q l =>
      show splitL c (p ++ c :: joinA c (q :: l)) = _
      rw [splitL_cut c _ p (h p (by simp)), ih (by simp) fun y hy => h y (by simp [hy])]
theorem joinA_nil {c : UInt8} {l : List (List UInt8)} (h : ∀ p ∈ l, p ≠ []) : joinA c l = [] ↔ l = [] := by
  cases l with
  | nil => exact ⟨fun _ => rfl, fun _ => rfl⟩
  | cons p l =>
    refine ⟨fun e => ?_, fun e => by cases e⟩
    cases l with
    | nil => exact absurd e (h p (by simp))
    | cons q l =>
      have e' : p ++ c :: joinA c (q :: l) = [] := e
      simp at e'
theorem joinA_len (c : UInt8) (m : Nat) : ∀ l : List (List UInt8), (∀ p ∈ l, p.length ≤ m) → (joinA c l).length ≤ (m + 1) * l.length := by
  intro l
  induction l with
  | nil => intro _; exact Nat.zero_le _
  | cons p l ih =>
    intro h
    have h1 := h p (by simp)
    have h2 := ih fun y hy => h y (by simp [hy])
    have e : (m + 1) * (p :: l).length = (m + 1) * l.length + (m + 1) := by rw [List.length_cons, Nat.mul_succ]
    rw [e]
    cases l with
    | nil => show p.length ≤ _; omega
    | cons q l =>
      show (p ++ c :: joinA c (q :: l)).length ≤ _
      rw [List.length_append, List.length_cons]
      omega
end Go.Proofs.YtameipbnobaoeaaDoor
