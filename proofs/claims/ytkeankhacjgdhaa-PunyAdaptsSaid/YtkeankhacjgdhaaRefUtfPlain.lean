/- Plain facts: the reference's way to a character (its bytes are made, and held against what stands there) is Go's decoder's. -/
import Derived.Test.YtkeankhacjgdhaaUtfPlain
namespace Go.Proofs.Ytkeankhacjgdhaa

/-- A character's bytes. -/
def putN (n : Nat) : List Nat :=
  if n < 128 then [n] else if n < 2048 then [192 + n / 64, 128 + n % 64] else if n < 65536 then [224 + n / 4096, 128 + n / 64 % 64, 128 + n % 64]
  else [240 + n / 262144, 128 + n / 4096 % 64, 128 + n / 64 % 64, 128 + n % 64]
/-- The number that so many bytes would tell. -/
def guessZ (k b0 b1 b2 b3 : Int) : Int :=
  if k = 1 then b0 else if k = 2 then 64 * (b0 - 192) + b1 - 128 else if k = 3 then 64 * (64 * (b0 - 224) + b1 - 128) + b2 - 128 else 64 * (64 * (64 * (b0 - 240) + b1 - 128) + b2 - 128) + b3 - 128
def rightZ (n : Int) : Prop := 0 ≤ n ∧ n < 1114112 ∧ ¬ (55296 ≤ n ∧ n < 57344)
def firstN (k b0 b1 b2 b3 : Nat) : List Nat := [b0, b1, b2, b3].take k

theorem guess1 (b0 b1 b2 b3 : Int) : guessZ 1 b0 b1 b2 b3 = b0 := by simp [guessZ]
theorem guess2 (b0 b1 b2 b3 : Int) : guessZ 2 b0 b1 b2 b3 = 64 * (b0 - 192) + b1 - 128 := by simp [guessZ]
theorem guess3 (b0 b1 b2 b3 : Int) : guessZ 3 b0 b1 b2 b3 = 64 * (64 * (b0 - 224) + b1 - 128) + b2 - 128 := by simp [guessZ]
theorem guess4 (b0 b1 b2 b3 : Int) : guessZ 4 b0 b1 b2 b3 = 64 * (64 * (64 * (b0 - 240) + b1 - 128) + b2 - 128) + b3 - 128 := by simp [guessZ]

theorem hit_dec {n k b0 b1 b2 b3 : Nat} (hk1 : 1 ≤ k) (hk4 : k ≤ 4) (hkn : k ≤ n) (h0 : b0 < 256) (h1 : b1 < 256) (h2 : b2 < 256) (_ : b3 < 256) (hr : rightZ (guessZ k b0 b1 b2 b3))
    (hp : putN (guessZ k b0 b1 b2 b3).toNat = firstN k b0 b1 b2 b3) : Lib.decodeN n b0 b1 b2 b3 = ((guessZ k b0 b1 b2 b3).toNat, k) ∧ ((guessZ k b0 b1 b2 b3).toNat, k) ≠ (65533, 1) := by
  unfold rightZ at hr
  obtain ⟨N, hN⟩ := Int.eq_ofNat_of_zero_le hr.1
  rw [hN] at hr hp ⊢
  rw [Int.toNat_natCast] at hp ⊢
  have hc : k = 1 ∨ k = 2 ∨ k = 3 ∨ k = 4 := by omega
  rcases hc with rfl | rfl | rfl | rfl
  · rw [show ((1 : Nat) : Int) = 1 from rfl, guess1] at hN
    unfold putN firstN at hp
    repeat' split at hp
    all_goals simp at hp
    refine ⟨?_, by simp; omega⟩
    unfold Lib.decodeN
    rw [if_pos (by omega)]
    simp; omega
  · rw [show ((2 : Nat) : Int) = 2 from rfl, guess2] at hN
    unfold putN firstN at hp
    repeat' split at hp
    all_goals simp at hp
    refine ⟨?_, by simp⟩
    unfold Lib.decodeN
    rw [if_neg (by omega), if_pos (by omega), if_pos (by omega)]
    simp; omega
  · rw [show ((3 : Nat) : Int) = 3 from rfl, guess3] at hN
    unfold putN firstN at hp
    repeat' split at hp
    all_goals simp at hp
    refine ⟨?_, by simp⟩
    unfold Lib.decodeN
    rw [if_neg (by omega), if_neg (by omega), if_pos (by omega), if_pos (by omega)]
    simp; omega
  · rw [show ((4 : Nat) : Int) = 4 from rfl, guess4] at hN
    unfold putN firstN at hp
    repeat' split at hp
    all_goals simp at hp
    refine ⟨?_, by simp⟩
    unfold Lib.decodeN
    rw [if_neg (by omega), if_neg (by omega), if_neg (by omega), if_pos (by omega), if_pos (by omega)]
    simp; omega

theorem dec_hit {n b0 b1 b2 b3 : Nat} (hn : 0 < n) (h0 : b0 < 256) (h1 : b1 < 256) (h2 : b2 < 256) (_ : b3 < 256) (ho : Lib.decodeN n b0 b1 b2 b3 ≠ (65533, 1)) :
    ∃ k, 1 ≤ k ∧ k ≤ 4 ∧ k ≤ n ∧ rightZ (guessZ k b0 b1 b2 b3) ∧ putN (guessZ k b0 b1 b2 b3).toNat = firstN k b0 b1 b2 b3 := by
  unfold Lib.decodeN at ho
  repeat' split at ho
  all_goals first | exact absurd rfl ho | skip
  · refine ⟨1, by omega, by omega, by omega, ?_, ?_⟩
    all_goals rw [show ((1 : Nat) : Int) = 1 from rfl, guess1]
    · unfold rightZ; omega
    · rw [Int.toNat_natCast]; unfold putN firstN
      rw [if_pos (by omega)]; rfl
  · refine ⟨2, by omega, by omega, by omega, ?_, ?_⟩
    all_goals rw [show ((2 : Nat) : Int) = 2 from rfl, guess2]
    · unfold rightZ; omega
    · unfold putN firstN
      rw [if_neg (by omega), if_pos (by omega)]
      simp; omega
  · refine ⟨3, by omega, by omega, by omega, ?_, ?_⟩
    all_goals rw [show ((3 : Nat) : Int) = 3 from rfl, guess3]
    · unfold rightZ; omega
    · unfold putN firstN
      rw [if_neg (by omega), if_neg (by omega), if_pos (by omega)]
      simp; omega
  · refine ⟨4, by omega, by omega, by omega, ?_, ?_⟩
    all_goals rw [show ((4 : Nat) : Int) = 4 from rfl, guess4]
    · unfold rightZ; omega
    · unfold putN firstN
      rw [if_neg (by omega), if_neg (by omega), if_neg (by omega)]
      simp; omega
end Go.Proofs.Ytkeankhacjgdhaa
