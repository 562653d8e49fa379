/- fold.written: a number's digits of a base, at least so many. -/
import Derived.Test.YtpaeloadmjblpaaDoorDigitsPlain
namespace Go.Proofs.YtpaeloadmjblpaaDoor
open Go.RowKit

/-- A number's digits, at least so many. -/
def writ (base n width : Nat) : List UInt8 := digs base (max (ndigs base 64 n) (max width 1)) n

theorem fig_at (i : Nat) (h : i < 16) : (⟨#[48, 49, 50, 51, 52, 53, 54, 55, 56, 57, 65, 66, 67, 68, 69, 70]⟩ : ByteArray)[i]'h = UInt8.ofNat (figN i) := by
  have : ∀ i : Fin 16, (⟨#[48, 49, 50, 51, 52, 53, 54, 55, 56, 57, 65, 66, 67, 68, 69, 70]⟩ : ByteArray)[i.1]'i.2 = UInt8.ofNat (figN i.1) := by decide
  exact this ⟨i, h⟩

theorem arr64 : Tryd.prog.arrayLen 115 = 64 := by kernel_rfl
theorem elem64 : Tryd.prog.elem 115 = 5 := by kernel_rfl
theorem slice64 (g j : Nat) (hj : 1 ≤ j) (hj2 : j ≤ 64) (w : World) : (Instr.sliceAt 115 (.pointer (some ⟨g, 0, none⟩)) (some (.int .i64 (64 - (j : Int)))) none none).run Tryd.prog w = .ok (.slice (some ⟨g, 64 - j, none⟩) j j) w := by
  have ht : Tryd.prog.underlying 115 = some (.array (Tryd.prog.arrayLen 115) (Tryd.prog.elem 115)) := by kernel_rfl
  have hs : (sizeOf 5).run Tryd.prog w = .ok 1 w := by kernel_rfl
  rw [run_sliceAt_array_l w _ _ ht _ _ (by omega) (by rw [arr64]; omega), elem64, hs, arr64]
  simp only [Result.andThen, slicedAt]
  have e : (64 - (j : Int)).toNat = 64 - j := by omega
  rw [e, if_neg (by omega), Addr.add_lit]
  have e2 : 64 - (64 - j) = j := by omega
  rw [e2]
  simp

theorem set_mid {α : Type} (z b : α) (r : Nat) (D : List α) : (List.replicate (r + 1) z ++ D).set r b = List.replicate r z ++ (b :: D) := by
  induction r with
  | zero => simp
  | succ r ih => rw [List.replicate_succ, List.cons_append, List.set_cons_succ, ih, List.replicate_succ, List.cons_append]

theorem writ_step {w : World} {g j base n m : Nat} (hB : BytesAt w g (List.replicate (64 - j) 0 ++ digs base j n)) (hj : j < 64) (hm : n / base ^ j = m) (b : UInt8) (hb : b = UInt8.ofNat (figN (m % base))) :
    BytesAt (w.setCell ⟨g, 64 - j - 1, none⟩ (.int .u8 (b.toNat : Int))) g (List.replicate (64 - (j + 1)) 0 ++ digs base (j + 1) n) := by
  have h := hB.store (k := 64 - j - 1) (by simp [digs_length]; omega) b
  have e : 64 - j = (64 - (j + 1)) + 1 := by omega
  have e2 : 64 - j - 1 = 64 - (j + 1) := by omega
  rw [digs_head, hm, ← hb, ← set_mid, ← e, ← e2]
  exact h

theorem writ_end {w : World} {g j base n : Nat} (hB : BytesAt w g (List.replicate (64 - j) 0 ++ digs base j n)) (hj : 1 ≤ j) (hj2 : j ≤ 64) :
    (∀ w' : World, (Instr.sliceAt 115 (.pointer (some ⟨g, 0, none⟩)) (some (.int .i64 (64 - (j : Int)))) none none).run Tryd.prog w' = .ok (.slice (some ⟨g, 64 - j, none⟩) j j) w') ∧
    (convert 29 9 (.slice (some ⟨g, 64 - j, none⟩) j j)).run Tryd.prog w = .ok (.string ⟨(digs base j n).toArray⟩) w :=
  ⟨slice64 g j hj hj2, run_back_at w _ _ 5 g (64 - j) j j (List.replicate (64 - j) 0) (digs base j n) (by simp) (digs_length _ _ _) Tryd.underlying29 Tryd.underlying5 Tryd.underlying9 hB⟩

set_option maxHeartbeats 1600000 in
set_option maxRecDepth 100000 in
theorem fold_written (n base : Nat) (width : Int) (w : World) (hn : n < 18446744073709551616) (hb : 2 ≤ base) (hb2 : base ≤ 16) (hw : width ≤ 16) (hw2 : -9223372036854775808 ≤ width) :
    Calls Tryd.prog 50 #[.int .u64 (n : Int), .int .u64 (base : Int), .int .i64 width] w fun e w' => e = .returned (.string ⟨(writ base n width.toNat).toArray⟩) ∧ Below w.heap.size w w' := by
  go_enter Tryd.func50, Tryd.ntmps50
  go_wp2_with fail
  have hB0 : BytesAt (w.alloc (.cells (List.replicate 64 (Value.int .u8 0)).toArray 115)) w.heap.size (List.replicate (64 - 0) 0 ++ digs base 0 n) :=
    ⟨115, [], 0, 0, .inl (Nat.le_refl _), heap_alloc_new w _⟩
  have hb0 : Below w.heap.size w (w.alloc (.cells (List.replicate 64 (Value.int .u8 0)).toArray 115)) := (Below.refl _ _).alloc (Nat.le_refl _) _
  have hJ0 : ndigs base 64 n ≤ 64 := ndigs_le _ _ _
  have hJp := ndigs_pos base hb 64 n
  have h64 : n < base ^ 64 := Nat.lt_of_lt_of_le hn (Nat.le_trans (by decide) (Nat.pow_le_pow_left hb 64))
  go_loopw [0, 8] (fun m a wr => ∃ j : Nat, j ≤ max (ndigs base 64 n) (max width.toNat 1) ∧ a = .int .i64 (64 - (j : Int)) ∧ m = .int .u64 ((n / base ^ j : Nat) : Int) ∧
      BytesAt wr w.heap.size (List.replicate (64 - j) 0 ++ digs base j n) ∧ Below w.heap.size w wr)
    (fun _ a _ => (intOf a).toNat)
  case atStart => exact ⟨0, Nat.zero_le _, rfl, by simp, hB0, hb0⟩
  case round =>
    obtain ⟨j, hj, rfl, rfl, hB, hbr⟩ := hrel
    have hp := hJp j h64
    generalize hm : n / base ^ j = m at *
    have HM := Lib.hid hm
    clear hm hJp hB0 hb0 h64
    have hml : m < 18446744073709551616 := by rw [← HM.out]; exact Nat.lt_of_le_of_lt (Nat.div_le_self _ _) hn
    have hr0 : (0 : Int) ≤ (m : Int) % (base : Int) := Int.emod_nonneg _ (by omega)
    have hr1 : (m : Int) % (base : Int) < 16 := Int.lt_of_lt_of_le (Int.emod_lt_of_pos _ (by omega)) (by omega)
    have hq0 : (0 : Int) ≤ (m : Int) / (base : Int) := Int.ediv_nonneg (by omega) (by omega)
    have hq1 : (m : Int) / (base : Int) ≤ (m : Int) := Int.ediv_le_self _ (by omega)
    by_cases h1 : 0 < m
    · have hj63 : j < 64 := by omega
      have hcell := hB.cell (k := 64 - j - 1) (by simp [digs_length]; omega)
      have hfr := hB.frozen (k := 64 - j - 1) (by simp [digs_length]; omega)
      generalize hv : (List.replicate (64 - j) 0 ++ digs base j n).getD (64 - j - 1) 0 = v0 at hcell
      clear hv
      have hst := fun b hb => writ_step hB hj63 HM.out b hb
      have HST := Lib.hid hst
      clear hst hB
      go_wp2_with fail
      go_roundw
      case rel => exact ⟨j + 1, by omega, by go_num, by rw [Nat.pow_succ, ← Nat.div_div_eq_div_mul, HM.out]; rfl, HST.out _ (fig_at _ (by omega)), hbr.setCell (Nat.le_refl _) _⟩
      case measure => simp [intOf]; omega
    · obtain rfl : m = 0 := by omega
      by_cases hw1 : width < 1
      · by_cases hj1 : j < 1
        · have hj63 : j < 64 := by omega
          have hcell := hB.cell (k := 64 - j - 1) (by simp [digs_length]; omega)
          have hfr := hB.frozen (k := 64 - j - 1) (by simp [digs_length]; omega)
          generalize hv : (List.replicate (64 - j) 0 ++ digs base j n).getD (64 - j - 1) 0 = v0 at hcell
          clear hv
          have hst := fun b hb => writ_step hB hj63 HM.out b hb
          have HST := Lib.hid hst
          clear hst hB
          go_wp2_with fail
          go_roundw
          case rel => exact ⟨j + 1, by omega, by go_num, by rw [Nat.pow_succ, ← Nat.div_div_eq_div_mul, HM.out]; simp, HST.out _ (by simp [figN]; rfl), hbr.setCell (Nat.le_refl _) _⟩
          case measure => simp [intOf]; omega
        · obtain ⟨hsl, hcv⟩ := writ_end hB (by omega : 1 ≤ j) (by omega)
          have hJ : j = max (ndigs base 64 n) (max width.toNat 1) := by omega
          have HJ := Lib.hid hJ
          clear hJ
          go_wp2_with fail
          go_ret
          exact ⟨ret_str (by rw [writ, ← HJ.out]), hbr⟩
      · by_cases hj1 : (j : Int) < width
        · have hj63 : j < 64 := by omega
          have hcell := hB.cell (k := 64 - j - 1) (by simp [digs_length]; omega)
          have hfr := hB.frozen (k := 64 - j - 1) (by simp [digs_length]; omega)
          generalize hv : (List.replicate (64 - j) 0 ++ digs base j n).getD (64 - j - 1) 0 = v0 at hcell
          clear hv
          have hst := fun b hb => writ_step hB hj63 HM.out b hb
          have HST := Lib.hid hst
          clear hst hB
          go_wp2_with fail
          go_roundw
          case rel => exact ⟨j + 1, by omega, by go_num, by rw [Nat.pow_succ, ← Nat.div_div_eq_div_mul, HM.out]; simp, HST.out _ (by simp [figN]; rfl), hbr.setCell (Nat.le_refl _) _⟩
          case measure => simp [intOf]; omega
        · obtain ⟨hsl, hcv⟩ := writ_end hB (by omega : 1 ≤ j) (by omega)
          have hJ : j = max (ndigs base 64 n) (max width.toNat 1) := by omega
          have HJ := Lib.hid hJ
          clear hJ
          go_wp2_with fail
          go_ret
          exact ⟨ret_str (by rw [writ, ← HJ.out]), hbr⟩

theorem fold_Digits (n : Nat) (w : World) (hn : n < 18446744073709551616) :
    Calls Tryd.prog 36 #[.int .u64 (n : Int)] w fun e w' => e = .returned (.string ⟨(writ 10 n 1).toArray⟩) ∧ Below w.heap.size w w' := by
  go_enter Tryd.func36, Tryd.ntmps36
  go_wp2_with fail
  refine (fold_written n 10 1 _ hn (by omega) (by omega) (by omega) (by omega)).mono ?_
  rintro e w1 ⟨rfl, hb1⟩
  go_wp2_with fail
  go_ret
  exact ⟨rfl, hb1⟩
end Go.Proofs.YtpaeloadmjblpaaDoor
