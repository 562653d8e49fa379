/- Plain facts: a list of numbers' bytes, or the first one that is no character. -/
import Derived.Test.YtkeankhacjgdhaaPutPlain
namespace Go.Proofs.Ytkeankhacjgdhaa

/-- How many of the list's numbers, from its head, are characters. -/
def rightLen : List Int → Nat
  | [] => 0
  | c :: l => if rightB c = true then rightLen l + 1 else 0
def nats (l : List Int) : List Nat := l.map Int.toNat
theorem rightLen_le (l : List Int) : rightLen l ≤ l.length := by
  induction l with
  | nil => exact Nat.le_refl _
  | cons c l ih => unfold rightLen; split <;> simp <;> omega
theorem rightLen_step : ∀ (l : List Int) (i : Nat), i ≤ rightLen l → i < l.length → (rightB (l.getD i 0) = true → i + 1 ≤ rightLen l) ∧ (rightB (l.getD i 0) = false → rightLen l = i) := by
  intro l
  induction l with
  | nil => intro i _ h; simp at h
  | cons c l ih =>
    intro i h1 h2
    unfold rightLen at h1 ⊢
    by_cases hc : rightB c = true
    · rw [if_pos hc] at h1 ⊢
      cases i with
      | zero => exact ⟨fun _ => by omega, fun h => by simp [hc] at h⟩
      | succ i =>
        have := ih i (by omega) (by simpa using h2)
        constructor
        · intro h; have := this.1 (by simpa using h); omega
        · intro h; have := this.2 (by simpa using h); omega
    · rw [if_neg hc] at h1 ⊢
      obtain rfl : i = 0 := by omega
      exact ⟨fun h => absurd (by simpa using h) hc, fun _ => rfl⟩
theorem right_all : ∀ (l : List Int), rightLen l = l.length → ∀ c ∈ nats l, rightC c := by
  intro l
  induction l with
  | nil => intro _ c hc; simp [nats] at hc
  | cons d l ih =>
    intro h c hc
    unfold rightLen at h
    split at h
    · rename_i hd
      simp only [nats, List.map_cons, List.mem_cons] at hc
      rcases hc with rfl | hc
      · have hz := (rightB_iff d).1 hd
        unfold rightZ at hz
        unfold rightC; omega
      · exact ih (by simpa using h) c hc
    · simp at h
theorem nats_take_succ (l : List Int) (i : Nat) (hi : i < l.length) : nats (l.take (i + 1)) = nats (l.take i) ++ [(l.getD i 0).toNat] := by
  unfold nats
  rw [List.take_succ_eq_append_getElem hi, List.map_append]
  simp [hi]
theorem nats_len (l : List Int) : (nats l).length = l.length := by simp [nats]
end Go.Proofs.Ytkeankhacjgdhaa
