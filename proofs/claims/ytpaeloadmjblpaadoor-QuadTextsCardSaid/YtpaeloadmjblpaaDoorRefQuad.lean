/- The reference's hexed, base, power, number of chapter 11. -/
import Derived.Test.YtpaeloadmjblpaaDoorQuadNum
import Derived.Test.YtpaeloadmjblpaaDoorRefNumber
namespace Go.Proofs.YtpaeloadmjblpaaDoor
open Go.RowKit

set_option maxHeartbeats 800000 in
theorem ref11_hexed (s : ByteArray) (hs : s.size ≤ 16777216) (w : World) : Calls Tryd.prog 34 #[.string s] w fun e w' => e = .returned (.bool (hexedB s)) ∧ w = w' := by
  by_cases h1 : 1 < s.size
  · have g0 : 0 < s.size := by omega
    have b0 := byteAt_idx g0
    have b1 := byteAt_idx h1
    have hd : decide ((1 : Int) < (s.size : Int)) = true := decide_eq_true (by omega)
    have h1I : (1 : Int) < (s.size : Int) := by omega
    have hx : hexedB s = (decide (byteAt s 0 = 48) && (decide ((byteAt s 1).toNat = 120) || decide ((byteAt s 1).toNat = 88))) := by unfold hexedB; rw [decide_eq_true h1, Bool.true_and]
    have e1 : (((byteAt s 1).toNat : Int) == 120) = decide ((byteAt s 1).toNat = 120) := by rw [Bool.eq_iff_iff]; simp; omega
    have e2 : (((byteAt s 1).toNat : Int) == 88) = decide ((byteAt s 1).toNat = 88) := by rw [Bool.eq_iff_iff]; simp; omega
    by_cases h0 : byteAt s 0 = 48
    · have e0 : (((byteAt s 0).toNat : Int) == 48) = true := by rw [h0]; rfl
      rw [decide_eq_true h0, Bool.true_and] at hx
      rw [hx]
      clear hx h0
      generalize decide ((byteAt s 1).toNat = 120) = q1 at *
      generalize decide ((byteAt s 1).toNat = 88) = q2 at *
      cases q1 <;> cases q2
      all_goals
        go_enter Tryd.func34, Tryd.ntmps34
        go_wp2_with fail
        go_ret
        exact ⟨rfl, rfl⟩
    · have e0 : (((byteAt s 0).toNat : Int) == 48) = false := u8_ne' (b := 48) h0
      rw [decide_eq_false h0, Bool.false_and] at hx
      rw [hx]
      clear hx h0 e1 e2
      go_enter Tryd.func34, Tryd.ntmps34
      go_wp2_with fail
      go_ret
      exact ⟨rfl, rfl⟩
  · have hx : hexedB s = false := by unfold hexedB; rw [decide_eq_false h1, Bool.false_and]
    have hd : decide ((1 : Int) < (s.size : Int)) = false := decide_eq_false (by omega)
    rw [hx]
    go_enter Tryd.func34, Tryd.ntmps34
    go_wp2_with fail
    go_ret
    exact ⟨rfl, rfl⟩
set_option maxHeartbeats 800000 in
theorem ref11_base (s : ByteArray) (hs : s.size ≤ 16777216) (w : World) : Calls Tryd.prog 26 #[.string s] w fun e w' => e = .returned (.tuple #[.int .u64 ((formQ s).1 : Nat), .int .i64 ((formQ s).2.1 : Nat)]) ∧ w = w' := by
  have cH := Lib.hid (fun W => ref11_hexed s hs W)
  rcases formQ_three s with ⟨hx, hf, h2⟩ | ⟨hx, ho, hf, h2⟩ | ⟨hx, ho, hf⟩
  · rw [hx] at cH
    rw [hf]
    clear hf hx
    go_enter Tryd.func26, Tryd.ntmps26
    go_wp2_with fail
    refine (cH.out _).mono ?_
    rintro e w2 ⟨rfl, rfl⟩
    go_wp2_with fail
    go_ret2
    exact ⟨rfl, rfl⟩
  · rw [hx] at cH
    rw [hf]
    have g0 : 0 < s.size := by omega
    have b0 := byteAt_idx g0
    have h1I : (1 : Int) < (s.size : Int) := by omega
    have hd1 : decide ((1 : Int) < (s.size : Int)) = true := decide_eq_true h1I
    have h0 : byteAt s 0 = 48 := by unfold octB at ho; simp at ho; exact ho.2
    have e0 : (((byteAt s 0).toNat : Int) == 48) = true := by rw [h0]; rfl
    clear hf hx ho h0
    go_enter Tryd.func26, Tryd.ntmps26
    go_wp2_with fail
    refine (cH.out _).mono ?_
    rintro e w2 ⟨rfl, rfl⟩
    go_wp2_with fail
    go_ret2
    exact ⟨rfl, rfl⟩
  · rw [hx] at cH
    rw [hf]
    clear hf hx
    by_cases h1 : 1 < s.size
    · have g0 : 0 < s.size := by omega
      have b0 := byteAt_idx g0
      have h1I : (1 : Int) < (s.size : Int) := by omega
      have hd1 : decide ((1 : Int) < (s.size : Int)) = true := decide_eq_true h1I
      have h0 : byteAt s 0 ≠ 48 := by unfold octB at ho; simpa [h1] using ho
      have e0 : (((byteAt s 0).toNat : Int) == 48) = false := u8_ne' (b := 48) h0
      clear ho h0
      go_enter Tryd.func26, Tryd.ntmps26
      go_wp2_with fail
      refine (cH.out _).mono ?_
      rintro e w2 ⟨rfl, rfl⟩
      go_wp2_with fail
      go_ret2
      exact ⟨rfl, rfl⟩
    · have hd1 : decide ((1 : Int) < (s.size : Int)) = false := decide_eq_false (by omega)
      clear ho
      go_enter Tryd.func26, Tryd.ntmps26
      go_wp2_with fail
      refine (cH.out _).mono ?_
      rintro e w2 ⟨rfl, rfl⟩
      go_wp2_with fail
      go_ret2
      exact ⟨rfl, rfl⟩

theorem pow_le5 {i : Nat} (h : i ≤ 5) : 256 ^ i ≤ 1099511627776 := by
  have : 256 ^ i ≤ 256 ^ 5 := Nat.pow_le_pow_right (by omega) h
  omega
set_option maxHeartbeats 800000 in
theorem ref11_power (n : Nat) (hn : n ≤ 5) (w : World) : Calls Tryd.prog 29 #[.int .i64 (n : Int)] w fun e w' => e = .returned (.int .u64 (256 ^ n : Nat)) ∧ w' = w := by
  go_enter Tryd.func29, Tryd.ntmps29
  go_wp2_with fail
  go_loop [3, 4] (fun a x => ∃ i m : Nat, i ≤ n ∧ x = .int .i64 i ∧ a = .int .u64 m ∧ m = 256 ^ i) (fun _ x => n - (intOf x).toNat)
  case atStart => exact ⟨0, 1, Nat.zero_le _, rfl, rfl, rfl⟩
  case round =>
    obtain ⟨i, m, hil, rfl, rfl, hm⟩ := hrel
    have hp := pow_le5 (i := i) (by omega)
    rw [← hm] at hp
    have HM := Lib.hid hm
    have hpI : (m : Int) ≤ 1099511627776 := by omega
    clear hm hp
    by_cases hlt : i < n
    · go_wp2_with fail
      go_round
      case rel => exact ⟨i + 1, m * 256, by omega, by go_num, by go_num, by rw [HM.out, Nat.pow_succ]⟩
      case measure => simp [intOf]; omega
    · obtain rfl : i = n := by omega
      clear hpI
      go_wp2_with fail
      go_ret
      exact ⟨by rw [HM.out]; rfl, rfl⟩
end Go.Proofs.YtpaeloadmjblpaaDoor
