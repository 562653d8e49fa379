/- The reference of chapter 17: blank, quoted, from place to place. -/
import Derived.Test.YteabhblbefglpaaDoorWireJudgesM12
import Derived.Test.YteabhblbefglpaaDoorWireJudgesM4

namespace Go.Proofs.YteabhblbefglpaaDoor
open Go.RowKit

def blankN (s : ByteArray) (a : Nat) : Nat := a + ((rest s a).takeWhile isBlank).length
theorem blankN_rest (s : ByteArray) (a : Nat) : rest s (blankN s a) = blankL (rest s a) := by
  obtain ⟨_, _, _, _, s5⟩ := span_at isBlank (rest s a)
  unfold blankN blankL
  rw [s5, rest_drop]
theorem blankN_le (s : ByteArray) (a : Nat) (ha : a ≤ s.size) : a ≤ blankN s a ∧ blankN s a ≤ s.size := by
  obtain ⟨_, s2, _, _, _⟩ := span_at isBlank (rest s a)
  rw [rest_len] at s2
  unfold blankN
  omega
theorem u8_is {c : UInt8} {n : Nat} (hn : n < 256) : ((c.toNat : Int) == (n : Int)) = decide (c = UInt8.ofNat n) := by
  by_cases h : c = UInt8.ofNat n
  · have := u8_eqN hn h
    rw [decide_eq_true h]
    simpa [bne] using this
  · have := u8_neN hn h
    rw [decide_eq_false h]
    simpa [bne] using this
set_option maxHeartbeats 1600000 in
set_option maxRecDepth 100000 in
theorem ref17_blank (s : ByteArray) (a : Nat) (w : World) (hs : s.size ≤ 1000000) (ha : a ≤ s.size) : Calls Tryd.prog 118 #[.string s, .int .i64 (a : Int)] w fun e w' => e = .returned (.int .i64 (blankN s a : Int)) ∧ w = w' := by
  obtain ⟨s1, s2, s3, s4, _⟩ := span_at isBlank (rest s a)
  rw [rest_len] at s2 s3
  have hfin : blankN s a = a + ((rest s a).takeWhile isBlank).length := rfl
  generalize ((rest s a).takeWhile isBlank).length = k at *
  have S1 := Lib.hid s1
  have S3 := Lib.hid s3
  have HF := Lib.hid hfin
  clear s1 s3 s4 hfin
  go_enter Tryd.func118, Tryd.ntmps118
  go_wp2_with fail
  go_loopw [1] (fun x wr => ∃ i : Nat, i ≤ k ∧ x = .int .i64 ((a + i : Nat) : Int) ∧ w = wr) (fun x _ => a + k - (intOf x).toNat)
  case atStart => exact ⟨0, Nat.zero_le _, rfl, rfl⟩
  case round =>
    obtain ⟨i, hik, rfl, rfl⟩ := hrel
    by_cases hz : a + i < s.size
    · have ei : s[a + i] = (rest s a).getD i 0 := by rw [← byteAt_ix hz, rest_get]
      have d1 : ((s[a + i].toNat : Int) == 32) = decide (s[a + i] = 32) := u8_is (n := 32) (by decide)
      have d2 : ((s[a + i].toNat : Int) == 9) = decide (s[a + i] = 9) := u8_is (n := 9) (by decide)
      have hzI : ((a + i : Nat) : Int) < (s.size : Int) := by omega
      by_cases hlt : i < k
      · have hB := S1.out i hlt
        rw [← ei] at hB
        unfold isBlank at hB
        clear ei
        generalize e0 : a + i = b at hz d1 d2 hzI hB ⊢
        by_cases h32 : (s[b]'hz) = 32
        · rw [decide_eq_true h32] at d1
          clear d2 hB h32
          go_wp2_with fail
          go_roundw
          case rel => exact ⟨i + 1, by omega, by rw [← e0]; go_num, by first | rfl | trivial⟩
          case measure => simp [intOf]; omega
        · have h9 : (s[b]'hz) = 9 := by simpa [h32] using hB
          rw [decide_eq_false h32] at d1
          rw [decide_eq_true h9] at d2
          clear hB h32 h9
          go_wp2_with fail
          go_roundw
          case rel => exact ⟨i + 1, by omega, by rw [← e0]; go_num, by first | rfl | trivial⟩
          case measure => simp [intOf]; omega
      · obtain rfl : i = k := by omega
        have hB := S3.out (by omega)
        rw [← ei] at hB
        unfold isBlank at hB
        clear ei S1 S3 s2 hlt hik ha
        generalize a + i = b at *
        have h32 : (s[b]'hz) ≠ 32 := fun h => by simp [h] at hB
        have h9 : (s[b]'hz) ≠ 9 := fun h => by simp [h] at hB
        rw [decide_eq_false h32] at d1
        rw [decide_eq_false h9] at d2
        clear hB h32 h9
        go_wp2_with fail
        go_ret
        exact ⟨by rw [HF.out]; rfl, rfl⟩
    · obtain rfl : i = k := by omega
      have hb : a + i = s.size := by omega
      rw [hb] at HF ⊢
      clear S1 S3 s2 hik ha hz hb
      go_wp2_with fail
      go_ret
      exact ⟨by rw [HF.out]; rfl, rfl⟩
theorem ext_one {s : ByteArray} {i : Nat} (h : i < s.size) : s.extract i (i + 1) = ofL [byteAt s i] := by
  rw [rest_extract, rest_cons h]; rfl
theorem cat_one {s : ByteArray} {i : Nat} (out : List UInt8) (h : i < s.size) : ofL out ++ s.extract i (i + 1) = ofL (out ++ [byteAt s i]) := by
  rw [ext_one h, ofL_app]
def quotedN (s : ByteArray) (a : Nat) : ByteArray × Int := match quotedG (rest s (a + 1)) [] with
  | some (v, r) => (ofL v, ((s.size - r.length : Nat) : Int))
  | none => (⟨#[]⟩, -1)
theorem quotedN_some {s : ByteArray} {a : Nat} {v r : List UInt8} (h : quotedG (rest s (a + 1)) [] = some (v, r)) : quotedN s a = (ofL v, ((s.size - r.length : Nat) : Int)) := by unfold quotedN; rw [h]
theorem quotedN_none {s : ByteArray} {a : Nat} (h : quotedG (rest s (a + 1)) [] = none) : quotedN s a = (⟨#[]⟩, -1) := by unfold quotedN; rw [h]
set_option maxHeartbeats 1600000 in
set_option maxRecDepth 100000 in
theorem ref17_quoted (s : ByteArray) (a : Nat) (w : World) (hs : s.size ≤ 1000000) (ha : a < s.size) : Calls Tryd.prog 150 #[.string s, .int .i64 (a : Int)] w fun e w' => e = .returned (.tuple #[.string (quotedN s a).1, .int .i64 (quotedN s a).2]) ∧ w = w' := by
  go_enter Tryd.func150, Tryd.ntmps150
  go_wp2_with fail
  go_loopw [6, 7] (fun o x wr => ∃ (i : Nat) (out : List UInt8), i ≤ s.size ∧ o = .string (ofL out) ∧ x = .int .i64 (i : Int) ∧ out.length ≤ i ∧ quotedG (rest s (a + 1)) [] = quotedG (rest s i) out ∧ w = wr) (fun _ x _ => s.size - (intOf x).toNat)
  case atStart => exact ⟨a + 1, [], by omega, rfl, by go_num, by simp, rfl, rfl⟩
  case round =>
    obtain ⟨i, out, his, rfl, rfl, hol, hq, rfl⟩ := hrel
    by_cases hz : i < s.size
    · rw [rest_cons hz] at hq
      have ei := byteAt_ix hz
      have d1 : ((s[i].toNat : Int) == 34) = decide (s[i] = 34) := u8_is (n := 34) (by decide)
      have d2 : ((s[i].toNat : Int) == 92) = decide (s[i] = 92) := u8_is (n := 92) (by decide)
      by_cases h34 : s[i] = 34
      · rw [quotedG_end (ei.trans h34)] at hq
        have hr := quotedN_some hq
        rw [rest_len, show s.size - (s.size - (i + 1)) = i + 1 by omega] at hr
        rw [decide_eq_true h34] at d1
        have HR := Lib.hid hr
        clear hr hq ei d2 h34
        go_wp2_with fail
        go_ret2
        exact ⟨by rw [HR.out]; rfl, rfl⟩
      · rw [decide_eq_false h34] at d1
        by_cases h92 : s[i] = 92
        · rw [decide_eq_true h92] at d2
          rw [ei, h92] at hq
          by_cases hz2 : i + 1 < s.size
          · rw [rest_cons hz2, quotedG_esc] at hq
            have hcat := cat_one out hz2
            have hne : (((i + 1 : Nat) : Int) == (s.size : Int)) = false := by rw [beq_eq_false_iff_ne]; omega
            have hol2 : (ofL out).size ≤ 1000000 := by rw [ofL_size]; omega
            have HC := Lib.hid hcat
            have HQ := Lib.hid hq
            clear hq hcat ei h34 h92
            go_wp2_with fail
            go_roundw
            case rel => exact ⟨i + 2, out ++ [byteAt s (i + 1)], by omega, by rw [← HC.out], by go_num, by simp; omega, HQ.out, by first | rfl | trivial⟩
            case measure => simp [intOf]; omega
          · obtain hb : i + 1 = s.size := by omega
            rw [rest_nil (s := s) (i := i + 1) (by omega), quotedG_esc0] at hq
            have HR := Lib.hid (quotedN_none hq)
            have hne : (((i : Int) + 1) == (s.size : Int)) = true := by rw [beq_iff_eq]; omega
            clear hq ei h34 h92
            go_wp2_with fail
            go_ret2
            exact ⟨by rw [HR.out]; rfl, rfl⟩
        · rw [decide_eq_false h92] at d2
          rw [quotedG_step (by rw [ei]; exact h34) (by rw [ei]; exact h92)] at hq
          have hcat := cat_one out hz
          have hol2 : (ofL out).size ≤ 1000000 := by rw [ofL_size]; omega
          have HC := Lib.hid hcat
          have HQ := Lib.hid hq
          clear hq hcat ei h34 h92
          go_wp2_with fail
          go_roundw
          case rel => exact ⟨i + 1, out ++ [byteAt s i], by omega, by rw [← HC.out], by go_num, by simp; omega, HQ.out, by first | rfl | trivial⟩
          case measure => simp [intOf]; omega
    · rw [rest_nil (s := s) (i := i) (by omega)] at hq
      have HR := Lib.hid (quotedN_none (hq.trans rfl))
      clear hq
      go_wp2_with fail
      go_ret2
      exact ⟨by rw [HR.out]; rfl, rfl⟩
end Go.Proofs.YteabhblbefglpaaDoor
