/- Plain facts: the first size whose character's bytes stand there is the decoder's; where there is none the decoder finds none. -/
import Derived.Test.YtkgifenidmbdkaaGreatDoorSubstMatchesM3
import Derived.Lib.RuneBytes
import Derived.Test.YtkgifenidmbdkaaGreatDoorSubstMatchesM1

namespace Go.Proofs.YtkgifenidmbdkaaGreatDoor

/-- So many bytes are those of the character that they would tell. -/
def hitB (s : ByteArray) (i k : Nat) : Prop := rightB (guessB s i k) = true ∧ (⟨(putL (guessB s i k).toNat).toArray⟩ : ByteArray) = s.extract i (i + k)

theorem putL_nat {n : Nat} (hn : n < 1114112) : (putL n).map UInt8.toNat = putN n := by
  have hb : ∀ x, x ∈ putN n → x < 256 := by
    intro x hx
    unfold putN at hx
    repeat' split at hx
    all_goals simp at hx; omega
  unfold putL
  rw [List.map_map]
  conv => rhs; rw [← List.map_id (putN n)]
  refine List.map_congr_left fun x hx => ?_
  simp only [Function.comp, id]
  exact UInt8.toNat_ofNat_of_lt' (hb x hx)

theorem part_nat (s : ByteArray) (i k : Nat) (hk1 : 1 ≤ k) (hk4 : k ≤ 4) (hik : i + k ≤ s.size) : ((s.data.toList.drop i).take k).map UInt8.toNat = firstN k (byteAt s i).toNat (byteAt s (i + 1)).toNat (byteAt s (i + 2)).toNat (byteAt s (i + 3)).toNat := by
  have hl : s.data.toList.length = s.size := rfl
  have hc : k = 1 ∨ k = 2 ∨ k = 3 ∨ k = 4 := by omega
  apply List.ext_getElem?
  intro j
  unfold firstN byteAt
  simp only [List.getElem?_map, List.getElem?_take, List.getElem?_drop]
  by_cases hj : j < k
  · have hjs : i + j < s.data.toList.length := by omega
    rw [if_pos hj, if_pos hj, List.getElem?_eq_getElem hjs]
    have hj4 : j = 0 ∨ j = 1 ∨ j = 2 ∨ j = 3 := by omega
    rcases hj4 with rfl | rfl | rfl | rfl
    · simp [List.getD, hl, show i < s.size by omega]
    · simp [List.getD, hl, show i + 1 < s.size by omega]
    · simp [List.getD, hl, show i + 2 < s.size by omega]
    · simp [List.getD, hl, show i + 3 < s.size by omega]
  · rw [if_neg hj, if_neg hj]; rfl

theorem extract_list (s : ByteArray) (i k : Nat) : (s.extract i (i + k)).data.toList = (s.data.toList.drop i).take k := by
  rw [Lib.extract_eq, Nat.add_sub_cancel_left]

theorem hitB_iff (s : ByteArray) (i k : Nat) (hk1 : 1 ≤ k) (hk4 : k ≤ 4) (hik : i + k ≤ s.size) :
    hitB s i k ↔ rightZ (guessB s i k) ∧ putN (guessB s i k).toNat = firstN k (byteAt s i).toNat (byteAt s (i + 1)).toNat (byteAt s (i + 2)).toNat (byteAt s (i + 3)).toNat := by
  unfold hitB
  rw [rightB_iff]
  refine and_congr_right fun hr => ?_
  have hr' := hr
  unfold rightZ at hr'
  have hn : (guessB s i k).toNat < 1114112 := by omega
  rw [← putL_nat hn, ← part_nat s i k hk1 hk4 hik, ← extract_list]
  constructor
  · intro h; rw [← h]
  · intro h
    apply ByteArray.ext
    apply Array.ext'
    have hid : ∀ l : List UInt8, (l.map UInt8.toNat).map UInt8.ofNat = l := fun l => by
      rw [List.map_map]
      conv => rhs; rw [← List.map_id l]
      exact List.map_congr_left fun x _ => by simp
    have := congrArg (List.map UInt8.ofNat) h
    rw [hid, hid] at this
    exact this

theorem hitB_dec {s : ByteArray} {i k : Nat} (hk1 : 1 ≤ k) (hk4 : k ≤ 4) (hik : i + k ≤ s.size) (h : hitB s i k) : okB s i = true ∧ decB s i = ((guessB s i k).toNat, k) := by
  obtain ⟨hr, hp⟩ := (hitB_iff s i k hk1 hk4 hik).1 h
  obtain ⟨e, ne⟩ := hit_dec (n := s.size - i) hk1 hk4 (by omega) (byteAt s i).toNat_lt (byteAt s (i + 1)).toNat_lt (byteAt s (i + 2)).toNat_lt (byteAt s (i + 3)).toNat_lt hr hp
  have e' : decB s i = ((guessB s i k).toNat, k) := e
  refine ⟨?_, e'⟩
  unfold okB
  rw [e']
  exact decide_eq_true ne

theorem no_hit {s : ByteArray} {i : Nat} (hi : i < s.size) (h : ∀ m, 1 ≤ m → m ≤ 4 → i + m ≤ s.size → ¬ hitB s i m) : okB s i = false := by
  refine decide_eq_false fun ho => ?_
  obtain ⟨k, hk1, hk4, hkn, hr, hp⟩ := dec_hit (n := s.size - i) (by omega) (byteAt s i).toNat_lt (byteAt s (i + 1)).toNat_lt (byteAt s (i + 2)).toNat_lt (byteAt s (i + 3)).toNat_lt ho
  exact h k hk1 hk4 (by omega) ((hitB_iff s i k hk1 hk4 (by omega)).2 ⟨hr, hp⟩)

/-- The reference's answer: the character, and how many bytes it has; 0, 0: none. -/
def refC (s : ByteArray) (i : Nat) : Nat := if okB s i then (decB s i).1 else 0
def refN (s : ByteArray) (i : Nat) : Nat := if okB s i then (decB s i).2 else 0
theorem ref_yes {s : ByteArray} {i c n : Nat} (h : okB s i = true ∧ decB s i = (c, n)) : c = refC s i ∧ n = refN s i := by
  unfold refC refN
  rw [if_pos h.1, if_pos h.1, h.2]
  exact ⟨rfl, rfl⟩
theorem ref_no {s : ByteArray} {i : Nat} (h : okB s i = false) : 0 = refC s i ∧ 0 = refN s i := by
  unfold refC refN
  rw [h]
  exact ⟨rfl, rfl⟩
theorem ret_next {s : ByteArray} {i c n : Nat} (h : c = refC s i ∧ n = refN s i) :
    Ending.returned (.tuple #[.int .i64 (c : Int), .int .i64 (n : Int)]) = .returned (.tuple #[.int .i64 (refC s i : Int), .int .i64 (refN s i : Int)]) := by rw [h.1, h.2]
theorem ret_next0 {s : ByteArray} {i : Nat} (h : 0 = refC s i ∧ 0 = refN s i) :
    Ending.returned (.tuple #[.int .i64 0, .int .i64 0]) = .returned (.tuple #[.int .i64 (refC s i : Int), .int .i64 (refN s i : Int)]) := by rw [← h.1, ← h.2]; rfl
end Go.Proofs.YtkgifenidmbdkaaGreatDoor

/- Plain facts: characters' bytes and back. -/
namespace Go.Proofs.YtkgifenidmbdkaaGreatDoor

theorem rightC_iff (n : Nat) : rightC n ↔ rightB (n : Int) = true := by
  rw [rightB_iff]; unfold rightC rightZ; omega
theorem putN_len (n : Nat) : 1 ≤ (putN n).length ∧ (putN n).length ≤ 4 := by
  unfold putN
  repeat' split
  all_goals simp
theorem putL_len (n : Nat) : (putL n).length = (putN n).length := by simp [putL]

theorem runeCells_put {n : Nat} (h : rightC n) : Lib.runeCells (n : Int) = (putL n).map byteV := by
  have hb : ∀ x, x ∈ putN n → x < 256 := by
    intro x hx
    unfold rightC at h
    unfold putN at hx
    repeat' split at hx
    all_goals simp at hx; omega
  have e : (putL n).map byteV = (putN n).map fun x : Nat => Value.int .u8 (x : Int) := by
    unfold putL
    rw [List.map_map]
    refine List.map_congr_left fun x hx => ?_
    simp only [Function.comp, byteV]
    rw [UInt8.toNat_ofNat_of_lt' (hb x hx)]
  rw [e]
  unfold rightC at h
  unfold Lib.runeCells
  have hc : n < 128 ∨ (128 ≤ n ∧ n < 2048) ∨ (2048 ≤ n ∧ n < 65536) ∨ 65536 ≤ n := by omega
  rcases hc with h1 | ⟨h1, h2⟩ | ⟨h1, h2⟩ | h1
  · rw [Lib.encodeRuneZ_one (by omega) (by omega), put1 h1]; rfl
  · rw [Lib.encodeRuneZ_two (by omega) (by omega), put2 h1 h2]; simp
  · rw [Lib.encodeRuneZ_three (by omega), put3 h1 h2]; simp
  · rw [Lib.encodeRuneZ_four (by omega) (by omega), put4 h1]; simp

theorem guess_put {n b0 b1 b2 b3 : Nat} (h : rightC n) (hf : firstN (putN n).length b0 b1 b2 b3 = putN n) : guessZ (putN n).length b0 b1 b2 b3 = n := by
  unfold rightC at h
  have hc : n < 128 ∨ (128 ≤ n ∧ n < 2048) ∨ (2048 ≤ n ∧ n < 65536) ∨ 65536 ≤ n := by omega
  rcases hc with h1 | ⟨h1, h2⟩ | ⟨h1, h2⟩ | h1
  · rw [put1 h1] at hf ⊢
    simp [firstN] at hf
    rw [show (([n] : List Nat).length : Int) = 1 from rfl, guess1]
    omega
  · rw [put2 h1 h2] at hf ⊢
    simp [firstN] at hf
    rw [show (([192 + n / 64, 128 + n % 64] : List Nat).length : Int) = 2 from rfl, guess2]
    omega
  · rw [put3 h1 h2] at hf ⊢
    simp [firstN] at hf
    rw [show (([224 + n / 4096, 128 + n / 64 % 64, 128 + n % 64] : List Nat).length : Int) = 3 from rfl, guess3]
    omega
  · rw [put4 h1] at hf ⊢
    simp [firstN] at hf
    rw [show (([240 + n / 262144, 128 + n / 4096 % 64, 128 + n / 64 % 64, 128 + n % 64] : List Nat).length : Int) = 4 from rfl, guess4]
    omega

theorem rightC_lt {n : Nat} (h : rightC n) : n < 1114112 := by unfold rightC at h; omega

/-- A character's bytes at a place are read as it. -/
theorem put_dec {s : ByteArray} {i n : Nat} (h : rightC n) (hi : i + (putL n).length ≤ s.size) (hb : (s.data.toList.drop i).take (putL n).length = putL n) : decB s i = (n, (putL n).length) ∧ okB s i = true := by
  have hl := putN_len n
  rw [putL_len] at hi hb ⊢
  have hf : firstN (putN n).length (byteAt s i).toNat (byteAt s (i + 1)).toNat (byteAt s (i + 2)).toNat (byteAt s (i + 3)).toNat = putN n := by
    rw [← part_nat s i _ hl.1 hl.2 hi, hb, putL_nat (rightC_lt h)]
  have hg := guess_put h hf
  have hh : hitB s i (putN n).length := (hitB_iff s i _ hl.1 hl.2 hi).2 ⟨by
    show rightZ (guessZ _ _ _ _ _)
    rw [hg, ← rightB_iff]; exact (rightC_iff n).1 h, by
    show putN (guessZ _ _ _ _ _).toNat = _
    rw [hg, hf, Int.toNat_natCast]⟩
  have hd := hitB_dec hl.1 hl.2 hi hh
  refine ⟨?_, hd.1⟩
  rw [hd.2]
  show ((guessZ _ _ _ _ _).toNat, _) = _
  rw [hg, Int.toNat_natCast]

/-- What is read as a character is its bytes. -/
theorem dec_put {s : ByteArray} {i : Nat} (hi : i < s.size) (ho : okB s i = true) : putL (decB s i).1 = (s.data.toList.drop i).take (decB s i).2 := by
  have ho' : decB s i ≠ (65533, 1) := of_decide_eq_true ho
  obtain ⟨k, hk1, hk4, hkn, hr, hp⟩ := dec_hit (n := s.size - i) (by omega) (byteAt s i).toNat_lt (byteAt s (i + 1)).toNat_lt (byteAt s (i + 2)).toNat_lt (byteAt s (i + 3)).toNat_lt ho'
  have hh : hitB s i k := (hitB_iff s i k hk1 hk4 (by omega)).2 ⟨hr, hp⟩
  have hd := hitB_dec hk1 hk4 (by omega) hh
  rw [hd.2]
  have := congrArg (fun b : ByteArray => b.data.toList) hh.2
  simp only [extract_list] at this
  exact this

/-- The bytes of characters. -/
def putAll (l : List Nat) : List UInt8 := l.flatMap putL
theorem putAll_cons (c : Nat) (l : List Nat) : putAll (c :: l) = putL c ++ putAll l := rfl
theorem putAll_app (a b : List Nat) : putAll (a ++ b) = putAll a ++ putAll b := by unfold putAll; exact List.flatMap_append
theorem putAll_one (c : Nat) : putAll [c] = putL c := by unfold putAll; simp
theorem putAll_len (l : List Nat) : l.length ≤ (putAll l).length ∧ (putAll l).length ≤ 4 * l.length := by
  induction l with
  | nil => simp [putAll]
  | cons c l ih =>
    have := putN_len c
    rw [putAll_cons, List.length_append, putL_len, List.length_cons]; omega

theorem chrs_put_at : ∀ (post pre : List Nat), (∀ c ∈ post, rightC c) → Reach ⟨(putAll (pre ++ post)).toArray⟩ pre (putAll pre).length → chrs ⟨(putAll (pre ++ post)).toArray⟩ = (pre ++ post, none) := by
  intro post
  induction post with
  | nil =>
    intro pre _ hr
    rw [List.append_nil] at hr ⊢
    exact hr.done (by show ¬ _ < (putAll pre).toArray.size; simp)
  | cons c post ih =>
    intro pre hc hr
    have hsz : (⟨(putAll (pre ++ c :: post)).toArray⟩ : ByteArray).size = (putAll pre).length + ((putL c).length + (putAll post).length) := by
      show (putAll (pre ++ c :: post)).toArray.size = _
      rw [putAll_app, putAll_cons]; simp
    have hl := putN_len c
    have hd := put_dec (s := ⟨(putAll (pre ++ c :: post)).toArray⟩) (i := (putAll pre).length) (hc c (by simp)) (by rw [hsz]; omega) (by
      show (((putAll (pre ++ c :: post)).toArray.toList).drop _).take _ = _
      rw [putAll_app, putAll_cons]
      simp)
    have hs := hr.step (by rw [hsz, putL_len]; omega) hd.2
    rw [hd.1] at hs
    have e : (putAll (pre ++ [c])).length = (putAll pre).length + (putL c).length := by rw [putAll_app, putAll_one, List.length_append]
    have := ih (pre ++ [c]) (fun d hd' => hc d (by simp [hd'])) (by rw [e]; simpa using hs)
    simpa using this

theorem chrs_put (l : List Nat) (h : ∀ c ∈ l, rightC c) : chrs ⟨(putAll l).toArray⟩ = (l, none) := by
  have := chrs_put_at l [] h (Reach.zero _)
  simpa using this

theorem put_from (s : ByteArray) : ∀ (f i : Nat), s.size - i ≤ f → i ≤ s.size → (chrsFrom s f i).2 = none → putAll (chrsFrom s f i).1 = s.data.toList.drop i := by
  intro f
  induction f with
  | zero =>
    intro i hf hi _
    have hl : s.data.toList.length = s.size := rfl
    rw [List.drop_eq_nil_of_le (by omega)]; rfl
  | succ f ih =>
    intro i hf hi hn
    have hl : s.data.toList.length = s.size := rfl
    unfold chrsFrom at hn ⊢
    by_cases hlt : i < s.size
    · rw [if_pos hlt] at hn ⊢
      by_cases ho : okB s i = true
      · rw [if_pos ho] at hn ⊢
        have hd := decB_bounds s i hlt
        rw [putAll_cons, ih _ (by omega) (by omega) hn, dec_put hlt ho, ← List.drop_drop, List.take_append_drop]
      · rw [if_neg ho] at hn
        simp at hn
    · rw [if_neg hlt, List.drop_eq_nil_of_le (by omega)]; rfl
theorem put_chrs (s : ByteArray) (h : (chrs s).2 = none) : putAll (chrs s).1 = s.data.toList := put_from s s.size 0 (by omega) (by omega) h
theorem right_from (s : ByteArray) : ∀ (f i : Nat), ∀ c ∈ (chrsFrom s f i).1, rightC c := by
  intro f
  induction f with
  | zero => intro i c h; simp [chrsFrom] at h
  | succ f ih =>
    intro i c h
    unfold chrsFrom at h
    split at h
    · split at h
      · rcases List.mem_cons.1 h with rfl | h
        · exact (decB_bounds s i (by assumption)).2.2.2
        · exact ih _ c h
      · simp at h
    · simp at h
theorem right_chrs (s : ByteArray) : ∀ c ∈ (chrs s).1, rightC c := right_from s s.size 0
end Go.Proofs.YtkgifenidmbdkaaGreatDoor

/- Plain: patterns with stars and question marks: what the statements say of them. -/
namespace Go.Proofs.YtkgifenidmbdkaaGreatDoor

def patP (p : ByteArray) : List GPart := (chrs p).1.map partOf
def okP (p : ByteArray) : Bool := decide (p.size ≤ 1024) && (chrs p).2.isNone
/-- Is a text in a pattern's language? -/
def matchB (p s : ByteArray) (f : Bool) : Bool := okP p && ((chrs s).2.isNone && langB f (patP p) (chrs s).1)
def signB (c : UInt8) : Bool := decide (c.toNat = 42) || decide (c.toNat = 63)
/-- What is ahead of the first sign, from a place on. -/
def leadFrom (p : ByteArray) : Nat → Nat → Nat
  | 0, i => i
  | f + 1, i => if i < p.size then (if signB (byteAt p i) = true then i else leadFrom p f (i + 1)) else i
def leadN (p : ByteArray) : Nat := leadFrom p p.size 0
def leadS (p : ByteArray) : ByteArray := p.extract 0 (leadN p)
def leastN (p : ByteArray) : Nat := if okP p = true then ((chrs p).1.filter fun c => decide (c ≠ 42)).length else 0

theorem leadFrom_spec (p : ByteArray) : ∀ f i, p.size - i ≤ f → i ≤ p.size → i ≤ leadFrom p f i ∧ leadFrom p f i ≤ p.size ∧ (∀ j, i ≤ j → j < leadFrom p f i → signB (byteAt p j) = false) ∧ (leadFrom p f i < p.size → signB (byteAt p (leadFrom p f i)) = true) := by
  intro f
  induction f with
  | zero =>
    intro i hf hi
    obtain rfl : i = p.size := by omega
    exact ⟨Nat.le_refl _, Nat.le_refl _, fun j h1 h2 => by unfold leadFrom at h2; omega, fun h => by unfold leadFrom at h; omega⟩
  | succ f ih =>
    intro i hf hi
    unfold leadFrom
    by_cases hlt : i < p.size
    · rw [if_pos hlt]
      by_cases hs : signB (byteAt p i) = true
      · rw [if_pos hs]
        exact ⟨Nat.le_refl _, hi, fun j h1 h2 => by omega, fun _ => hs⟩
      · rw [if_neg hs]
        obtain ⟨h1, h2, h3, h4⟩ := ih (i + 1) (by omega) (by omega)
        refine ⟨by omega, h2, fun j h5 h6 => ?_, h4⟩
        by_cases hj : j = i
        · rw [hj]; simpa using hs
        · exact h3 j (by omega) h6
    · rw [if_neg hlt]
      exact ⟨Nat.le_refl _, hi, fun j h1 h2 => by omega, fun h => absurd h hlt⟩
theorem leadN_spec (p : ByteArray) : leadN p ≤ p.size ∧ (∀ j, j < leadN p → signB (byteAt p j) = false) ∧ (leadN p < p.size → signB (byteAt p (leadN p)) = true) := by
  obtain ⟨_, h2, h3, h4⟩ := leadFrom_spec p p.size 0 (by omega) (by omega)
  exact ⟨h2, fun j hj => h3 j (Nat.zero_le _) hj, h4⟩
theorem leadN_is {p : ByteArray} {n : Nat} (h1 : n ≤ p.size) (h2 : ∀ j, j < n → signB (byteAt p j) = false) (h3 : n < p.size → signB (byteAt p n) = true) : leadN p = n := by
  obtain ⟨k1, k2, k3⟩ := leadN_spec p
  rcases Nat.lt_trichotomy (leadN p) n with h | h | h
  · have := k3 (by omega)
    rw [h2 _ h] at this; cases this
  · exact h
  · have := k2 n h
    rw [h3 (by omega)] at this; cases this

theorem matchB_iff (p s : ByteArray) (f : Bool) : matchB p s f = true ↔ p.size ≤ 1024 ∧ (chrs p).2 = none ∧ (chrs s).2 = none ∧ Lang f (patP p) (chrs s).1 := by
  unfold matchB okP
  simp only [Bool.and_eq_true, decide_eq_true_eq, Option.isNone_iff_eq_none, langB_iff]
  exact ⟨fun ⟨⟨a, b⟩, c, d⟩ => ⟨a, b, c, d⟩, fun ⟨a, b, c, d⟩ => ⟨⟨a, b⟩, c, d⟩⟩

theorem star_star (f : Bool) (u : List Nat) : Lang f [⟨0, true, true⟩, ⟨0, true, true⟩] u ↔ Lang f [⟨0, true, true⟩] u := by
  have h1 : ∀ v, oneOk f ⟨0, true, true⟩ v := fun v => (oneOk_many rfl).2 fun c _ => rfl
  constructor
  · intro _; exact (lang_one _ _ _).2 (h1 _)
  · intro _; exact ⟨[], u, rfl, h1 _, (lang_one _ _ _).2 (h1 _)⟩
theorem lang_star (f : Bool) (u : List Nat) : Lang f [⟨0, true, true⟩] u := (lang_one _ _ _).2 ((oneOk_many rfl).2 fun c _ => rfl)
theorem lang_double (f : Bool) (a b : List GPart) (u : List Nat) : Lang f (a ++ [⟨0, true, true⟩] ++ ([⟨0, true, true⟩] ++ b)) u ↔ Lang f (a ++ ([⟨0, true, true⟩] ++ b)) u := by
  rw [List.append_assoc, ← List.append_assoc [_] [_] b, lang_app, lang_app]
  constructor
  · rintro ⟨x, y, e, h1, h2⟩
    refine ⟨x, y, e, h1, ?_⟩
    rw [lang_app] at h2 ⊢
    obtain ⟨c, d, e, h3, h4⟩ := h2
    exact ⟨c, d, e, (star_star f c).1 h3, h4⟩
  · rintro ⟨x, y, e, h1, h2⟩
    refine ⟨x, y, e, h1, ?_⟩
    rw [lang_app] at h2 ⊢
    obtain ⟨c, d, e, h3, h4⟩ := h2
    exact ⟨c, d, e, (star_star f c).2 h3, h4⟩

def starS : ByteArray := ⟨#[42]⟩
theorem chrs_star : chrs starS = ([42], none) := chrs_byte 42 (by decide)
theorem extract_split (p : ByteArray) (i : Nat) (hi : i ≤ p.size) : p.extract 0 i ++ p.extract i p.size = p := by
  apply ByteArray.ext
  apply Array.ext'
  rw [ByteArray.data_append, Array.toList_append, Lib.extract_data, Lib.extract_data]
  have hl : p.data.toList.length = p.size := rfl
  simp
  rw [List.take_of_length_le (l := List.drop i _) (by simp)]
  exact List.take_append_drop i p.data.toList
theorem extract_size (p : ByteArray) (i j : Nat) (hij : i ≤ j) (hj : j ≤ p.size) : (p.extract i j).size = j - i := by
  rw [ByteArray.size_extract]; omega
theorem byteAt_ext (p : ByteArray) (i j k : Nat) (hj : j ≤ p.size) (hk : i + k < j) : byteAt (p.extract i j) k = byteAt p (i + k) := by
  unfold byteAt
  rw [Lib.extract_data]
  have hl : p.data.toList.length = p.size := rfl
  simp only [List.getD, List.getElem?_take, List.getElem?_drop]
  rw [if_pos (by omega)]

/-- A text that begins with a byte below 128: that character is its first one. -/
theorem chrs_head (d : ByteArray) (c : UInt8) (hd : 0 < d.size) (h0 : byteAt d 0 = c) (hc : c.toNat < 128) : chrs d = (c.toNat :: (chrs (d.extract 1 d.size)).1, (chrs (d.extract 1 d.size)).2.map (1 + ·)) := by
  have e : (⟨#[c]⟩ : ByteArray) ++ d.extract 1 d.size = d := by
    have h1 : d.extract 0 1 = ⟨#[c]⟩ := by
      apply ByteArray.ext
      apply Array.ext'
      rw [Lib.extract_data]
      have hl : d.data.toList.length = d.size := rfl
      unfold byteAt at h0
      cases hx : d.data.toList with
      | nil => rw [hx] at hl; simp at hl; omega
      | cons x r => rw [hx] at h0; simp at h0; subst h0; simp
    rw [← h1]; exact extract_split d 1 hd
  have h := chrs_join ⟨#[c]⟩ (d.extract 1 d.size) (by rw [chrs_byte c hc])
  rw [e, chrs_byte c hc] at h
  exact h

/-- A star more beside a star. -/
theorem match_star (p s : ByteArray) (f : Bool) (i : Nat) (hp : p.size ≤ 200) (hi : i < p.size) (hb : (byteAt p i).toNat = 42) : matchB (p.extract 0 i ++ starS ++ p.extract i p.size) s f = matchB p s f := by
  have hd0 : byteAt (p.extract i p.size) 0 = byteAt p i := by rw [byteAt_ext _ _ _ _ (Nat.le_refl _) (by omega), Nat.add_zero]
  have hds := extract_size p i p.size (by omega) (Nat.le_refl _)
  have has := extract_size p 0 i (by omega) (by omega)
  have hsp := extract_split p i (by omega)
  have hdc := chrs_head (p.extract i p.size) 42 (by omega) (by apply UInt8.toNat_inj.1; rw [hd0, hb]; rfl) (by decide)
  rw [show (42 : UInt8).toNat = 42 from rfl] at hdc
  generalize p.extract 0 i = a at *
  generalize p.extract i p.size = d at *
  rw [Bool.eq_iff_iff, matchB_iff, matchB_iff]
  have hsz : (a ++ starS ++ d).size ≤ 1024 := by
    rw [size_app, size_app, has, hds]
    show i + 1 + _ ≤ _
    omega
  have hz : p.size ≤ 1024 := by omega
  simp only [hsz, hz, true_and]
  subst hsp
  unfold patP
  cases hx : (chrs a).2 with
  | none =>
    have h1 := chrs_join a d hx
    have h2 := chrs_join a starS hx
    rw [chrs_star] at h2
    have h3 := chrs_join (a ++ starS) d (by rw [h2]; rfl)
    rw [h3, h2, h1, hdc]
    simp only [Option.map_eq_none_iff, List.map_append, List.map_cons, List.map_nil, partOf_star]
    refine and_congr_right fun _ => and_congr_right fun _ => ?_
    exact lang_double f _ _ _
  | some k =>
    have hb2 : (byteAt d 0).toNat < 128 := by rw [hd0, hb]; decide
    have h1 := chrs_join_bad a d k hx (by omega) hb2
    have h2 := chrs_join_bad a starS k hx (by decide) (by decide)
    have h3 := chrs_join_bad (a ++ starS) d k (by rw [h2]) (by omega) hb2
    rw [h1, h3]
    simp

theorem lang_self (f : Bool) (l u : List Nat) (h : ∀ c ∈ l, c ≠ 42 ∧ c ≠ 63) : Lang false (l.map partOf) u ↔ u = l := by
  induction l generalizing u with
  | nil => simp [Lang]
  | cons c l ih =>
    have hc := h c (by simp)
    simp only [List.map_cons, partOf_char hc.1 hc.2]
    constructor
    · rintro ⟨a, b, rfl, h1, h2⟩
      obtain ⟨x, rfl, hx⟩ := (oneOk_one rfl).1 h1
      rw [(ih b (fun d hd => h d (by simp [hd]))).1 h2]
      have : c = x := by simpa [standsB] using hx
      rw [this]; rfl
    · rintro rfl
      exact ⟨[c], l, rfl, (oneOk_one rfl).2 ⟨c, rfl, by simp [standsB]⟩, (ih l (fun d hd => h d (by simp [hd]))).2 rfl⟩
theorem stands_fold {p : GPart} {c : Nat} (h : standsB p c false = true) : standsB p c true = true := by
  unfold standsB at h ⊢
  simp only [Bool.false_and, Bool.or_false, Bool.true_and] at h ⊢
  rw [Bool.or_eq_true] at h
  rcases h with h | h
  · rw [h]; rfl
  · rw [h]; simp
theorem lang_fold (ps : List GPart) (u : List Nat) (h : Lang false ps u) : Lang true ps u := by
  induction ps generalizing u with
  | nil => exact h
  | cons p ps ih =>
    obtain ⟨a, b, rfl, h1, h2⟩ := h
    refine ⟨a, b, rfl, ?_, ih b h2⟩
    cases hm : p.many with
    | true => exact (oneOk_many hm).2 fun c hc => stands_fold ((oneOk_many hm).1 h1 c hc)
    | false =>
      obtain ⟨c, rfl, hc⟩ := (oneOk_one hm).1 h1
      exact (oneOk_one hm).2 ⟨c, rfl, stands_fold hc⟩
theorem match_fold {p s : ByteArray} (h : matchB p s false = true) : matchB p s true = true := by
  rw [matchB_iff] at h ⊢
  exact ⟨h.1, h.2.1, h.2.2.1, lang_fold _ _ h.2.2.2⟩

theorem no_signs {s : ByteArray} (h : ∀ j, j < s.size → signB (byteAt s j) = false) : ∀ c ∈ (chrs s).1, c ≠ 42 ∧ c ≠ 63 := by
  intro c hc
  have h1 := chrs_small s s.size 0 c hc
  constructor
  all_goals
    intro e
    subst e
    obtain ⟨j, hj, _, hb⟩ := h1 (by omega)
    have := h j hj
    unfold signB at this
    rw [hb] at this
    simp at this
theorem match_self (s : ByteArray) (f : Bool) (hs : s.size ≤ 200) (h : leadN s = s.size) : matchB s s f = (chrs s).2.isNone := by
  obtain ⟨_, h2, _⟩ := leadN_spec s
  rw [h] at h2
  have hn := no_signs h2
  rw [Bool.eq_iff_iff, matchB_iff, Option.isNone_iff_eq_none]
  refine ⟨fun k => k.2.1, fun k => ⟨by omega, k, k, ?_⟩⟩
  have := (lang_self false (chrs s).1 (chrs s).1 hn).2 rfl
  cases f with
  | false => exact this
  | true => exact lang_fold _ _ this

/-- What begins with a text's characters begins with its bytes. -/
theorem begins_bytes {a s : ByteArray} {r : List Nat} (ha : (chrs a).2 = none) (hs : (chrs s).2 = none) (h : (chrs s).1 = (chrs a).1 ++ r) : a.size ≤ s.size ∧ s.extract 0 a.size = a := by
  have h1 := put_chrs a ha
  have h2 := put_chrs s hs
  rw [h, putAll_app, h1] at h2
  have hl : s.data.toList.length = s.size := rfl
  have hla : a.data.toList.length = a.size := rfl
  have hle : a.size ≤ s.size := by rw [← hl, ← h2, List.length_append]; omega
  refine ⟨hle, ?_⟩
  apply ByteArray.ext
  apply Array.ext'
  rw [Lib.extract_data, ← h2, List.drop_zero, Nat.sub_zero, ← hla, List.take_append_of_le_length (Nat.le_refl _), List.take_length]
theorem match_lead {p s : ByteArray} (h : matchB p s false = true) : (leadS p).size ≤ s.size ∧ s.extract 0 (leadS p).size = leadS p := by
  rw [matchB_iff] at h
  obtain ⟨_, hp, hs, hl⟩ := h
  obtain ⟨k1, k2, k3⟩ := leadN_spec p
  have hsp := extract_split p (leadN p) k1
  have has := extract_size p 0 (leadN p) (by omega) k1
  have hbs := extract_size p (leadN p) p.size k1 (Nat.le_refl _)
  have hab : ∀ j, j < (p.extract 0 (leadN p)).size → signB (byteAt (p.extract 0 (leadN p)) j) = false := fun j hj => by
    rw [has] at hj
    rw [byteAt_ext _ _ _ _ k1 (by omega), Nat.zero_add]
    exact k2 j (by omega)
  have hb0 : 0 < (p.extract (leadN p) p.size).size → (byteAt (p.extract (leadN p) p.size) 0).toNat < 128 := fun h => by
    rw [byteAt_ext _ _ _ _ (Nat.le_refl _) (by omega), Nat.add_zero]
    have := k3 (by omega)
    unfold signB at this
    simp at this
    omega
  have hle : leadS p = p.extract 0 (leadN p) := rfl
  rw [hle]
  generalize p.extract 0 (leadN p) = a at *
  generalize p.extract (leadN p) p.size = d at *
  have ha : (chrs a).2 = none := by
    cases hx : (chrs a).2 with
    | none => rfl
    | some k =>
      by_cases hd : 0 < d.size
      · have := chrs_join_bad a d k hx hd (hb0 hd)
        rw [hsp] at this
        rw [this] at hp
        cases hp
      · have : d = ByteArray.empty := by
          apply ByteArray.ext
          apply Array.eq_empty_of_size_eq_zero
          show d.size = 0
          omega
        rw [this, ByteArray.append_empty] at hsp
        rw [hsp, hp] at hx
        cases hx
  have h1 := chrs_join a d ha
  rw [hsp] at h1
  unfold patP at hl
  rw [h1] at hl
  simp only [List.map_append] at hl
  rw [lang_app] at hl
  obtain ⟨x, y, e, h2, _⟩ := hl
  rw [lang_self false _ _ (no_signs hab)] at h2
  subst h2
  exact begins_bytes ha hs e

theorem lang_least (f : Bool) (l u : List Nat) (h : Lang f (l.map partOf) u) : (l.filter fun c => decide (c ≠ 42)).length ≤ u.length := by
  induction l generalizing u with
  | nil => simp
  | cons c l ih =>
    obtain ⟨a, b, rfl, h1, h2⟩ := h
    have := ih b h2
    by_cases hc : c = 42
    · subst hc
      simp at this ⊢
      omega
    · have hm : (partOf c).many = false := by
        unfold partOf
        rw [if_neg hc]
        split <;> rfl
      obtain ⟨x, rfl, _⟩ := (oneOk_one hm).1 h1
      simp [hc] at this ⊢
      omega
theorem match_least {p s : ByteArray} (h : matchB p s false = true) : leastN p ≤ (chrs s).1.length := by
  rw [matchB_iff] at h
  unfold leastN
  split
  · exact lang_least _ _ _ h.2.2.2
  · exact Nat.zero_le _
theorem match_behind {p s more : ByteArray} (hz : p.size ≤ 200) (h : matchB p s false = true) (hm : (chrs more).2 = none) : matchB (p ++ starS) (s ++ more) false = true := by
  rw [matchB_iff] at h ⊢
  obtain ⟨_, hp, hs, hl⟩ := h
  have h1 := chrs_join p starS hp
  have h2 := chrs_join s more hs
  rw [chrs_star] at h1
  refine ⟨by rw [size_app]; show p.size + 1 ≤ _; omega, by rw [h1]; rfl, by rw [h2, hm]; rfl, ?_⟩
  unfold patP at hl ⊢
  rw [h1, h2]
  simp only [List.map_append, List.map_cons, List.map_nil, partOf_star]
  exact (lang_app _ _ _ _).2 ⟨_, _, rfl, hl, lang_star _ _⟩
theorem match_ahead {p s more : ByteArray} (hz : p.size ≤ 200) (h : matchB p s false = true) (hm : (chrs more).2 = none) : matchB (starS ++ p) (more ++ s) false = true := by
  rw [matchB_iff] at h ⊢
  obtain ⟨_, hp, hs, hl⟩ := h
  have h1 := chrs_join starS p (by rw [chrs_star])
  have h2 := chrs_join more s hm
  rw [chrs_star] at h1
  refine ⟨by rw [size_app]; show 1 + p.size ≤ _; omega, by rw [h1, hp]; rfl, by rw [h2, hs]; rfl, ?_⟩
  unfold patP at hl ⊢
  rw [h1, h2]
  simp only [List.map_append, List.map_cons, List.map_nil, partOf_star]
  exact (lang_app _ _ _ _).2 ⟨_, _, rfl, lang_star _ _, hl⟩
end Go.Proofs.YtkgifenidmbdkaaGreatDoor
