/- Plain facts: the characters of two rows of bytes, one behind the other. -/
import Derived.Test.YtlnnimmiifdnnaaDoorRefUtfPlain
namespace Go.Proofs.YtlnnimmiifdnnaaDoor

theorem guessZ_agree {k : Nat} (hk1 : 1 ≤ k) (hk4 : k ≤ 4) {b0 b1 b2 b3 c0 c1 c2 c3 : Nat} (h0 : b0 = c0) (h1 : 2 ≤ k → b1 = c1) (h2 : 3 ≤ k → b2 = c2) (h3 : 4 ≤ k → b3 = c3) :
    guessZ k b0 b1 b2 b3 = guessZ k c0 c1 c2 c3 ∧ firstN k b0 b1 b2 b3 = firstN k c0 c1 c2 c3 := by
  have hc : k = 1 ∨ k = 2 ∨ k = 3 ∨ k = 4 := by omega
  subst h0
  rcases hc with rfl | rfl | rfl | rfl
  · exact ⟨by rw [show ((1 : Nat) : Int) = 1 from rfl, guess1, guess1], rfl⟩
  · rw [h1 (by omega)]
    exact ⟨by rw [show ((2 : Nat) : Int) = 2 from rfl, guess2, guess2], rfl⟩
  · rw [h1 (by omega), h2 (by omega)]
    exact ⟨by rw [show ((3 : Nat) : Int) = 3 from rfl, guess3, guess3], rfl⟩
  · rw [h1 (by omega), h2 (by omega), h3 (by omega)]
    exact ⟨rfl, rfl⟩

/-- What stands whole ahead of the end is told alike when more bytes follow. -/
theorem decB_more {s t : ByteArray} {i i' : Nat} (hi : i < s.size) (hle : s.size - i ≤ t.size - i') (ho : okB s i = true) (hb : ∀ j, j < s.size - i → byteAt t (i' + j) = byteAt s (i + j)) : decB t i' = decB s i ∧ okB t i' = true := by
  have ho' : decB s i ≠ (65533, 1) := of_decide_eq_true ho
  obtain ⟨k, hk1, hk4, hkn, hr, hp⟩ := dec_hit (n := s.size - i) (by omega) (byteAt s i).toNat_lt (byteAt s (i + 1)).toNat_lt (byteAt s (i + 2)).toNat_lt (byteAt s (i + 3)).toNat_lt ho'
  obtain ⟨e1, _⟩ := hit_dec hk1 hk4 hkn (byteAt s i).toNat_lt (byteAt s (i + 1)).toNat_lt (byteAt s (i + 2)).toNat_lt (byteAt s (i + 3)).toNat_lt hr hp
  have g := guessZ_agree hk1 hk4 (b0 := (byteAt t i').toNat) (b1 := (byteAt t (i' + 1)).toNat) (b2 := (byteAt t (i' + 2)).toNat) (b3 := (byteAt t (i' + 3)).toNat)
    (c0 := (byteAt s i).toNat) (c1 := (byteAt s (i + 1)).toNat) (c2 := (byteAt s (i + 2)).toNat) (c3 := (byteAt s (i + 3)).toNat)
    (by have := hb 0 (by omega); simpa using congrArg UInt8.toNat this) (fun h => congrArg UInt8.toNat (hb 1 (by omega))) (fun h => congrArg UInt8.toNat (hb 2 (by omega))) (fun h => congrArg UInt8.toNat (hb 3 (by omega)))
  rw [← g.1] at hr hp
  rw [← g.2] at hp
  obtain ⟨e2, n2⟩ := hit_dec (n := t.size - i') hk1 hk4 (by omega) (byteAt t i').toNat_lt (byteAt t (i' + 1)).toNat_lt (byteAt t (i' + 2)).toNat_lt (byteAt t (i' + 3)).toNat_lt hr hp
  have e3 : decB t i' = decB s i := by
    unfold decB
    rw [e1, e2, g.1]
  refine ⟨e3, ?_⟩
  unfold okB
  rw [e3]
  exact ho

theorem byteAt_app (a b : ByteArray) (j : Nat) : byteAt (a ++ b) j = if j < a.size then byteAt a j else byteAt b (j - a.size) := by
  have e : (a ++ b).data.toList = a.data.toList ++ b.data.toList := by rw [ByteArray.data_append]; simp
  have ha : a.data.toList.length = a.size := rfl
  unfold byteAt
  rw [e]
  simp only [List.getD, List.getElem?_append, ha]
  split <;> rfl
theorem size_app (a b : ByteArray) : (a ++ b).size = a.size + b.size := ByteArray.size_append

/-- What begins in the second is told as there. -/
theorem decB_second (a b : ByteArray) (j : Nat) : decB (a ++ b) (a.size + j) = decB b j := by
  have hb : ∀ m, byteAt (a ++ b) (a.size + m) = byteAt b m := fun m => by
    rw [byteAt_app, if_neg (by omega)]
    congr 1; omega
  unfold decB
  rw [size_app, hb, Nat.add_assoc, hb, Nat.add_assoc, hb, Nat.add_assoc, hb]
  congr 1; omega

theorem chrs_first (a b : ByteArray) : ∀ (f i : Nat) (l : List Nat), a.size - i ≤ f → i ≤ a.size → (chrsFrom a f i).2 = none → Reach (a ++ b) l i → Reach (a ++ b) (l ++ (chrsFrom a f i).1) a.size := by
  intro f
  induction f with
  | zero =>
    intro i l hf hi _ hr
    obtain rfl : i = a.size := by omega
    simpa [chrsFrom] using hr
  | succ f ih =>
    intro i l hf hi hn hr
    unfold chrsFrom at hn ⊢
    by_cases hlt : i < a.size
    · rw [if_pos hlt] at hn ⊢
      by_cases ho : okB a i = true
      · rw [if_pos ho] at hn ⊢
        have hd := decB_bounds a i hlt
        have hm := decB_more (s := a) (t := a ++ b) (i := i) (i' := i) hlt (by rw [size_app]; omega) ho (fun j hj => by rw [byteAt_app, if_pos (by omega)])
        have hs := hr.step (by rw [size_app]; omega) hm.2
        rw [hm.1] at hs
        have := ih (i + (decB a i).2) _ (by omega) (by omega) hn hs
        simpa using this
      · rw [if_neg ho] at hn
        simp at hn
    · rw [if_neg hlt]
      obtain rfl : i = a.size := by omega
      simpa using hr

theorem chrs_second (a b : ByteArray) : ∀ (f j : Nat) (l : List Nat), b.size - j ≤ f → j ≤ b.size → Reach (a ++ b) l (a.size + j) → chrs (a ++ b) = (l ++ (chrsFrom b f j).1, (chrsFrom b f j).2.map (a.size + ·)) := by
  intro f
  induction f with
  | zero =>
    intro j l hf hj hr
    obtain rfl : j = b.size := by omega
    rw [hr.done (by rw [size_app]; omega)]
    simp [chrsFrom]
  | succ f ih =>
    intro j l hf hj hr
    unfold chrsFrom
    by_cases hlt : j < b.size
    · rw [if_pos hlt]
      have hd := decB_bounds b j hlt
      have he := decB_second a b j
      have heo : okB (a ++ b) (a.size + j) = okB b j := by unfold okB; rw [he]
      by_cases ho : okB b j = true
      · rw [if_pos ho]
        have hs := hr.step (by rw [size_app]; omega) (heo.trans ho)
        rw [he, Nat.add_assoc] at hs
        have := ih (j + (decB b j).2) _ (by omega) (by omega) hs
        simpa using this
      · rw [if_neg ho, hr.bad (by rw [size_app]; omega) (by rw [heo]; exact Bool.not_eq_true _ ▸ ho)]
        simp
    · rw [if_neg hlt]
      obtain rfl : j = b.size := by omega
      rw [hr.done (by rw [size_app]; omega)]
      simp

theorem chrs_join (a b : ByteArray) (ha : (chrs a).2 = none) : chrs (a ++ b) = ((chrs a).1 ++ (chrs b).1, (chrs b).2.map (a.size + ·)) := by
  have h1 := chrs_first a b a.size 0 [] (by omega) (by omega) ha (Reach.zero _)
  have h2 := chrs_second a b b.size 0 _ (by omega) (by omega) h1
  rw [h2]
  simp [chrs]
theorem chrs_len (s : ByteArray) : (chrs s).1.length ≤ s.size := by
  have : ∀ f i, i ≤ s.size → (chrsFrom s f i).1.length ≤ s.size - i := by
    intro f
    induction f with
    | zero => intro i _; simp [chrsFrom]
    | succ f ih =>
      intro i hi
      unfold chrsFrom
      split
      · split
        · have hd := decB_bounds s i (by assumption)
          have := ih (i + (decB s i).2) (by omega)
          simp only [List.length_cons]; omega
        · simp
      · simp
  simpa [chrs] using this s.size 0 (by omega)
end Go.Proofs.YtlnnimmiifdnnaaDoor
