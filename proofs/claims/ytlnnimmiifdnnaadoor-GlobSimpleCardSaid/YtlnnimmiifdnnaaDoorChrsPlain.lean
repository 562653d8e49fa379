/- Plain facts on characters: a byte below 128 ends whatever stands ahead of it; characters below 128 are bytes. -/
import Derived.Test.YtlnnimmiifdnnaaDoorUtfJoinPlain
namespace Go.Proofs.YtlnnimmiifdnnaaDoor

theorem putN_cont {n m x : Nat} (hm : 1 ≤ m) (h : (putN n)[m]? = some x) : 128 ≤ x := by
  unfold putN at h
  repeat' split at h
  all_goals
    match m, hm, h with
    | 1, _, h => simp at h <;> omega
    | 2, _, h => simp at h <;> omega
    | 3, _, h => simp at h <;> omega
    | m + 4, _, h => simp at h
theorem firstN_get {k b0 b1 b2 b3 m : Nat} (hm : m < k) (hk : k ≤ 4) : (firstN k b0 b1 b2 b3)[m]? = some (if m = 0 then b0 else if m = 1 then b1 else if m = 2 then b2 else b3) := by
  unfold firstN
  rw [List.getElem?_take, if_pos hm]
  match m, (by omega : m < 4) with
  | 0, _ => rfl
  | 1, _ => rfl
  | 2, _ => rfl
  | 3, _ => rfl
/-- What isn't whole ahead of a byte below 128 isn't whole with it. -/
theorem decB_cut {s t : ByteArray} {i i' : Nat} (hi : i < s.size) (hlt : s.size - i < t.size - i') (hb : ∀ j, j < s.size - i → byteAt t (i' + j) = byteAt s (i + j))
    (hc : (byteAt t (i' + (s.size - i))).toNat < 128) (ho : okB t i' = true) : okB s i = true := by
  have ho' : decB t i' ≠ (65533, 1) := of_decide_eq_true ho
  obtain ⟨k, hk1, hk4, hkn, hr, hp⟩ := dec_hit (n := t.size - i') (by omega) (byteAt t i').toNat_lt (byteAt t (i' + 1)).toNat_lt (byteAt t (i' + 2)).toNat_lt (byteAt t (i' + 3)).toNat_lt ho'
  by_cases hkm : k ≤ s.size - i
  · have g := guessZ_agree hk1 hk4 (b0 := (byteAt s i).toNat) (b1 := (byteAt s (i + 1)).toNat) (b2 := (byteAt s (i + 2)).toNat) (b3 := (byteAt s (i + 3)).toNat)
      (c0 := (byteAt t i').toNat) (c1 := (byteAt t (i' + 1)).toNat) (c2 := (byteAt t (i' + 2)).toNat) (c3 := (byteAt t (i' + 3)).toNat)
      (by have := hb 0 (by omega); simpa using (congrArg UInt8.toNat this).symm) (fun h => (congrArg UInt8.toNat (hb 1 (by omega))).symm) (fun h => (congrArg UInt8.toNat (hb 2 (by omega))).symm) (fun h => (congrArg UInt8.toNat (hb 3 (by omega))).symm)
    rw [← g.1] at hr hp
    rw [← g.2] at hp
    obtain ⟨e2, n2⟩ := hit_dec (n := s.size - i) hk1 hk4 hkm (byteAt s i).toNat_lt (byteAt s (i + 1)).toNat_lt (byteAt s (i + 2)).toNat_lt (byteAt s (i + 3)).toNat_lt hr hp
    unfold okB decB
    rw [e2]
    exact decide_eq_true n2
  · exfalso
    have hm : s.size - i < k := by omega
    have h1 := firstN_get (b0 := (byteAt t i').toNat) (b1 := (byteAt t (i' + 1)).toNat) (b2 := (byteAt t (i' + 2)).toNat) (b3 := (byteAt t (i' + 3)).toNat) hm hk4
    rw [← hp] at h1
    have h2 := putN_cont (by omega) h1
    have hx : s.size - i = 1 ∨ s.size - i = 2 ∨ s.size - i = 3 := by omega
    rcases hx with hx | hx | hx <;> rw [hx] at h2 hc <;> simp at h2 <;> omega

theorem chrs_first_bad (a b : ByteArray) (hb0 : 0 < b.size) (hb : (byteAt b 0).toNat < 128) : ∀ (f i k : Nat) (l : List Nat), a.size - i ≤ f → i ≤ a.size → (chrsFrom a f i).2 = some k → Reach (a ++ b) l i → chrs (a ++ b) = (l ++ (chrsFrom a f i).1, some k) := by
  intro f
  induction f with
  | zero =>
    intro i k l hf hi hn hr
    simp [chrsFrom] at hn
  | succ f ih =>
    intro i k l hf hi hn hr
    unfold chrsFrom at hn ⊢
    by_cases hlt : i < a.size
    · rw [if_pos hlt] at hn ⊢
      by_cases ho : okB a i = true
      · rw [if_pos ho] at hn ⊢
        have hd := decB_bounds a i hlt
        have hm := decB_more (s := a) (t := a ++ b) (i := i) (i' := i) hlt (by rw [size_app]; omega) ho (fun j hj => by rw [byteAt_app, if_pos (by omega)])
        have hs := hr.step (by rw [size_app]; omega) hm.2
        rw [hm.1] at hs
        have := ih (i + (decB a i).2) k _ (by omega) (by omega) hn hs
        simpa using this
      · rw [if_neg ho] at hn ⊢
        obtain rfl : i = k := by simpa using hn
        have hno : okB (a ++ b) i = false := by
          rw [Bool.eq_false_iff]
          intro h
          exact ho (decB_cut (s := a) (t := a ++ b) (i := i) (i' := i) hlt (by rw [size_app]; omega) (fun j hj => by rw [byteAt_app, if_pos (by omega)]) (by rw [byteAt_app, if_neg (by omega), show i + (a.size - i) - a.size = 0 by omega]; exact hb) h)
        rw [hr.bad (by rw [size_app]; omega) hno]
        simp
    · rw [if_neg hlt] at hn
      simp at hn
theorem chrs_join_bad (a b : ByteArray) (k : Nat) (ha : (chrs a).2 = some k) (hb0 : 0 < b.size) (hb : (byteAt b 0).toNat < 128) : chrs (a ++ b) = ((chrs a).1, some k) := by
  have := chrs_first_bad a b hb0 hb a.size 0 k [] (by omega) (by omega) ha (Reach.zero _)
  rw [List.nil_append] at this
  exact this
theorem chrs_byte (c : UInt8) (h : c.toNat < 128) : chrs ⟨#[c]⟩ = ([c.toNat], none) := by
  have hb : byteAt (⟨#[c]⟩ : ByteArray) 0 = c := rfl
  have hs : (⟨#[c]⟩ : ByteArray).size = 1 := rfl
  have hd : decB ⟨#[c]⟩ 0 = (c.toNat, 1) := by unfold decB Lib.decodeN; rw [hb, if_pos h]
  have ho : okB ⟨#[c]⟩ 0 = true := by unfold okB; rw [hd]; refine decide_eq_true (fun e => ?_); simp at e; omega
  unfold chrs
  rw [hs]
  unfold chrsFrom
  rw [hs, if_pos (by omega), if_pos ho, hd]
  rfl

/-- Of a row of bytes each character below 128 is a byte. -/
theorem dec_small {n b0 b1 b2 b3 : Nat} (h : (Lib.decodeN n b0 b1 b2 b3).1 < 128) : Lib.decodeN n b0 b1 b2 b3 = (b0, 1) := by
  unfold Lib.decodeN at h ⊢
  repeat' split at h
  all_goals first | (exfalso; simp at h; done) | (exfalso; simp at h; omega) | skip
  rw [if_pos (by assumption)]
theorem chrs_small (s : ByteArray) : ∀ (f i : Nat) (c : Nat), c ∈ (chrsFrom s f i).1 → c < 128 → ∃ j, j < s.size ∧ i ≤ j ∧ (byteAt s j).toNat = c := by
  intro f
  induction f with
  | zero => intro i c h; simp [chrsFrom] at h
  | succ f ih =>
    intro i c h hc
    unfold chrsFrom at h
    split at h
    · rename_i hi
      have hd := decB_bounds s i hi
      split at h
      · rcases List.mem_cons.1 h with h | h
        · have h2 : (decB s i).1 < 128 := by omega
          have h3 := dec_small h2
          refine ⟨i, hi, Nat.le_refl _, ?_⟩
          rw [h]
          change decB s i = _ at h3
          rw [h3]
        · obtain ⟨j, h1, h2, h3⟩ := ih _ _ h hc
          exact ⟨j, h1, by omega, h3⟩
      · cases h
    · cases h
end Go.Proofs.YtlnnimmiifdnnaaDoor
