/- Plain facts: characters' bytes and back. -/
import Derived.Test.YtkeankhacjgdhaaRefNextPlain
import Derived.Lib.RuneBytes
namespace Go.Proofs.Ytkeankhacjgdhaa

theorem rightC_iff (n : Nat) : rightC n ↔ rightB (n : Int) = true := by
  rw [rightB_iff]; unfold rightC rightZ; omega
theorem putN_len (n : Nat) : 1 ≤ (putN n).length ∧ (putN n).length ≤ 4 := by
  unfold putN
  repeat' split
  all_goals simp
theorem putL_len (n : Nat) : (putL n).length = (putN n).length := by simp [putL]

theorem runeCells_put {n : Nat} (h : rightC n) : Lib.runeCells (n : Int) = (putL n).map byteV := by
  have hb : ∀ x, x ∈ putN n → x < 256 := by
    intro x hx
    unfold rightC at h
    unfold putN at hx
    repeat' split at hx
    all_goals simp at hx; omega
  have e : (putL n).map byteV = (putN n).map fun x : Nat => Value.int .u8 (x : Int) := by
    unfold putL
    rw [List.map_map]
    refine List.map_congr_left fun x hx => ?_
    simp only [Function.comp, byteV]
    rw [UInt8.toNat_ofNat_of_lt' (hb x hx)]
  rw [e]
  unfold rightC at h
  unfold Lib.runeCells
  have hc : n < 128 ∨ (128 ≤ n ∧ n < 2048) ∨ (2048 ≤ n ∧ n < 65536) ∨ 65536 ≤ n := by omega
  rcases hc with h1 | ⟨h1, h2⟩ | ⟨h1, h2⟩ | h1
  · rw [Lib.encodeRuneZ_one (by omega) (by omega), put1 h1]; rfl
  · rw [Lib.encodeRuneZ_two (by omega) (by omega), put2 h1 h2]; simp
  · rw [Lib.encodeRuneZ_three (by omega), put3 h1 h2]; simp
  · rw [Lib.encodeRuneZ_four (by omega) (by omega), put4 h1]; simp

theorem guess_put {n b0 b1 b2 b3 : Nat} (h : rightC n) (hf : firstN (putN n).length b0 b1 b2 b3 = putN n) : guessZ (putN n).length b0 b1 b2 b3 = n := by
  unfold rightC at h
  have hc : n < 128 ∨ (128 ≤ n ∧ n < 2048) ∨ (2048 ≤ n ∧ n < 65536) ∨ 65536 ≤ n := by omega
  rcases hc with h1 | ⟨h1, h2⟩ | ⟨h1, h2⟩ | h1
  · rw [put1 h1] at hf ⊢
    simp [firstN] at hf
    rw [show (([n] : List Nat).length : Int) = 1 from rfl, guess1]
    omega
  · rw [put2 h1 h2] at hf ⊢
    simp [firstN] at hf
    rw [show (([192 + n / 64, 128 + n % 64] : List Nat).length : Int) = 2 from rfl, guess2]
    omega
  · rw [put3 h1 h2] at hf ⊢
    simp [firstN] at hf
    rw [show (([224 + n / 4096, 128 + n / 64 % 64, 128 + n % 64] : List Nat).length : Int) = 3 from rfl, guess3]
    omega
  · rw [put4 h1] at hf ⊢
    simp [firstN] at hf
    rw [show (([240 + n / 262144, 128 + n / 4096 % 64, 128 + n / 64 % 64, 128 + n % 64] : List Nat).length : Int) = 4 from rfl, guess4]
    omega

theorem rightC_lt {n : Nat} (h : rightC n) : n < 1114112 := by unfold rightC at h; omega

/-- A character's bytes at a place are read as it. -/
theorem put_dec {s : ByteArray} {i n : Nat} (h : rightC n) (hi : i + (putL n).length ≤ s.size) (hb : (s.data.toList.drop i).take (putL n).length = putL n) : decB s i = (n, (putL n).length) ∧ okB s i = true := by
  have hl := putN_len n
  rw [putL_len] at hi hb ⊢
  have hf : firstN (putN n).length (byteAt s i).toNat (byteAt s (i + 1)).toNat (byteAt s (i + 2)).toNat (byteAt s (i + 3)).toNat = putN n := by
    rw [← part_nat s i _ hl.1 hl.2 hi, hb, putL_nat (rightC_lt h)]
  have hg := guess_put h hf
  have hh : hitB s i (putN n).length := (hitB_iff s i _ hl.1 hl.2 hi).2 ⟨by
    show rightZ (guessZ _ _ _ _ _)
    rw [hg, ← rightB_iff]; exact (rightC_iff n).1 h, by
    show putN (guessZ _ _ _ _ _).toNat = _
    rw [hg, hf, Int.toNat_natCast]⟩
  have hd := hitB_dec hl.1 hl.2 hi hh
  refine ⟨?_, hd.1⟩
  rw [hd.2]
  show ((guessZ _ _ _ _ _).toNat, _) = _
  rw [hg, Int.toNat_natCast]

/-- What is read as a character is its bytes. -/
theorem dec_put {s : ByteArray} {i : Nat} (hi : i < s.size) (ho : okB s i = true) : putL (decB s i).1 = (s.data.toList.drop i).take (decB s i).2 := by
  have ho' : decB s i ≠ (65533, 1) := of_decide_eq_true ho
  obtain ⟨k, hk1, hk4, hkn, hr, hp⟩ := dec_hit (n := s.size - i) (by omega) (byteAt s i).toNat_lt (byteAt s (i + 1)).toNat_lt (byteAt s (i + 2)).toNat_lt (byteAt s (i + 3)).toNat_lt ho'
  have hh : hitB s i k := (hitB_iff s i k hk1 hk4 (by omega)).2 ⟨hr, hp⟩
  have hd := hitB_dec hk1 hk4 (by omega) hh
  rw [hd.2]
  have := congrArg (fun b : ByteArray => b.data.toList) hh.2
  simp only [extract_list] at this
  exact this

/-- The bytes of characters. -/
def putAll (l : List Nat) : List UInt8 := l.flatMap putL
theorem putAll_cons (c : Nat) (l : List Nat) : putAll (c :: l) = putL c ++ putAll l := rfl
theorem putAll_app (a b : List Nat) : putAll (a ++ b) = putAll a ++ putAll b := by unfold putAll; exact List.flatMap_append
theorem putAll_one (c : Nat) : putAll [c] = putL c := by unfold putAll; simp
theorem putAll_len (l : List Nat) : l.length ≤ (putAll l).length ∧ (putAll l).length ≤ 4 * l.length := by
  induction l with
  | nil => simp [putAll]
  | cons c l ih =>
    have := putN_len c
    rw [putAll_cons, List.length_append, putL_len, List.length_cons]; omega

theorem chrs_put_at : ∀ (post pre : List Nat), (∀ c ∈ post, rightC c) → Reach ⟨(putAll (pre ++ post)).toArray⟩ pre (putAll pre).length → chrs ⟨(putAll (pre ++ post)).toArray⟩ = (pre ++ post, none) := by
  intro post
  induction post with
  | nil =>
    intro pre _ hr
    rw [List.append_nil] at hr ⊢
    exact hr.done (by show ¬ _ < (putAll pre).toArray.size; simp)
  | cons c post ih =>
    intro pre hc hr
    have hsz : (⟨(putAll (pre ++ c :: post)).toArray⟩ : ByteArray).size = (putAll pre).length + ((putL c).length + (putAll post).length) := by
      show (putAll (pre ++ c :: post)).toArray.size = _
      rw [putAll_app, putAll_cons]; simp
    have hl := putN_len c
    have hd := put_dec (s := ⟨(putAll (pre ++ c :: post)).toArray⟩) (i := (putAll pre).length) (hc c (by simp)) (by rw [hsz]; omega) (by
      show (((putAll (pre ++ c :: post)).toArray.toList).drop _).take _ = _
      rw [putAll_app, putAll_cons]
      simp)
    have hs := hr.step (by rw [hsz, putL_len]; omega) hd.2
    rw [hd.1] at hs
    have e : (putAll (pre ++ [c])).length = (putAll pre).length + (putL c).length := by rw [putAll_app, putAll_one, List.length_append]
    have := ih (pre ++ [c]) (fun d hd' => hc d (by simp [hd'])) (by rw [e]; simpa using hs)
    simpa using this

theorem chrs_put (l : List Nat) (h : ∀ c ∈ l, rightC c) : chrs ⟨(putAll l).toArray⟩ = (l, none) := by
  have := chrs_put_at l [] h (Reach.zero _)
  simpa using this

theorem put_from (s : ByteArray) : ∀ (f i : Nat), s.size - i ≤ f → i ≤ s.size → (chrsFrom s f i).2 = none → putAll (chrsFrom s f i).1 = s.data.toList.drop i := by
  intro f
  induction f with
  | zero =>
    intro i hf hi _
    have hl : s.data.toList.length = s.size := rfl
    rw [List.drop_eq_nil_of_le (by omega)]; rfl
  | succ f ih =>
    intro i hf hi hn
    have hl : s.data.toList.length = s.size := rfl
    unfold chrsFrom at hn ⊢
    by_cases hlt : i < s.size
    · rw [if_pos hlt] at hn ⊢
      by_cases ho : okB s i = true
      · rw [if_pos ho] at hn ⊢
        have hd := decB_bounds s i hlt
        rw [putAll_cons, ih _ (by omega) (by omega) hn, dec_put hlt ho, ← List.drop_drop, List.take_append_drop]
      · rw [if_neg ho] at hn
        simp at hn
    · rw [if_neg hlt, List.drop_eq_nil_of_le (by omega)]; rfl
theorem put_chrs (s : ByteArray) (h : (chrs s).2 = none) : putAll (chrs s).1 = s.data.toList := put_from s s.size 0 (by omega) (by omega) h
theorem right_from (s : ByteArray) : ∀ (f i : Nat), ∀ c ∈ (chrsFrom s f i).1, rightC c := by
  intro f
  induction f with
  | zero => intro i c h; simp [chrsFrom] at h
  | succ f ih =>
    intro i c h
    unfold chrsFrom at h
    split at h
    · split at h
      · rcases List.mem_cons.1 h with rfl | h
        · exact (decB_bounds s i (by assumption)).2.2.2
        · exact ih _ c h
      · simp at h
    · simp at h
theorem right_chrs (s : ByteArray) : ∀ c ∈ (chrs s).1, rightC c := right_from s s.size 0
end Go.Proofs.Ytkeankhacjgdhaa
