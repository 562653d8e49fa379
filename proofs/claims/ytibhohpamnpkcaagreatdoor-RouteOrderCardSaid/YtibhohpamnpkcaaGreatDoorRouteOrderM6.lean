/- Plain facts: the first size whose character's bytes stand there is the decoder's; where there is none the decoder finds none. -/
import Derived.Test.YtibhohpamnpkcaaGreatDoorRouteOrderM5
import Derived.Lib.RuneBytes
import Derived.Deep.RegionHeld
import Derived.IntWalk
import Derived.Deep.DeepCutAuto
import Derived.Test.YtibhohpamnpkcaaGreatDoorRouteOrderM1
import Derived.Test.YtibhohpamnpkcaaGreatDoorShelf

namespace Go.Proofs.YtibhohpamnpkcaaGreatDoor

/-- So many bytes are those of the character that they would tell. -/
def hitB (s : ByteArray) (i k : Nat) : Prop := rightB (guessB s i k) = true ∧ (⟨(putL (guessB s i k).toNat).toArray⟩ : ByteArray) = s.extract i (i + k)

theorem putL_nat {n : Nat} (hn : n < 1114112) : (putL n).map UInt8.toNat = putN n := by
  have hb : ∀ x, x ∈ putN n → x < 256 := by
    intro x hx
    unfold putN at hx
    repeat' split at hx
    all_goals simp at hx; omega
  unfold putL
  rw [List.map_map]
  conv => rhs; rw [← List.map_id (putN n)]
  refine List.map_congr_left fun x hx => ?_
  simp only [Function.comp, id]
  exact UInt8.toNat_ofNat_of_lt' (hb x hx)

theorem part_nat (s : ByteArray) (i k : Nat) (hk1 : 1 ≤ k) (hk4 : k ≤ 4) (hik : i + k ≤ s.size) : ((s.data.toList.drop i).take k).map UInt8.toNat = firstN k (byteAt s i).toNat (byteAt s (i + 1)).toNat (byteAt s (i + 2)).toNat (byteAt s (i + 3)).toNat := by
  have hl : s.data.toList.length = s.size := rfl
  have hc : k = 1 ∨ k = 2 ∨ k = 3 ∨ k = 4 := by omega
  apply List.ext_getElem?
  intro j
  unfold firstN byteAt
  simp only [List.getElem?_map, List.getElem?_take, List.getElem?_drop]
  by_cases hj : j < k
  · have hjs : i + j < s.data.toList.length := by omega
    rw [if_pos hj, if_pos hj, List.getElem?_eq_getElem hjs]
    have hj4 : j = 0 ∨ j = 1 ∨ j = 2 ∨ j = 3 := by omega
    rcases hj4 with rfl | rfl | rfl | rfl
    · simp [List.getD, hl, show i < s.size by omega]
    · simp [List.getD, hl, show i + 1 < s.size by omega]
    · simp [List.getD, hl, show i + 2 < s.size by omega]
    · simp [List.getD, hl, show i + 3 < s.size by omega]
  · rw [if_neg hj, if_neg hj]; rfl

theorem extract_list (s : ByteArray) (i k : Nat) : (s.extract i (i + k)).data.toList = (s.data.toList.drop i).take k := by
  rw [Lib.extract_eq, Nat.add_sub_cancel_left]

theorem hitB_iff (s : ByteArray) (i k : Nat) (hk1 : 1 ≤ k) (hk4 : k ≤ 4) (hik : i + k ≤ s.size) :
    hitB s i k ↔ rightZ (guessB s i k) ∧ putN (guessB s i k).toNat = firstN k (byteAt s i).toNat (byteAt s (i + 1)).toNat (byteAt s (i + 2)).toNat (byteAt s (i + 3)).toNat := by
  unfold hitB
  rw [rightB_iff]
  refine and_congr_right fun hr => ?_
  have hr' := hr
  unfold rightZ at hr'
  have hn : (guessB s i k).toNat < 1114112 := by omega
  rw [← putL_nat hn, ← part_nat s i k hk1 hk4 hik, ← extract_list]
  constructor
  · intro h; rw [← h]
  · intro h
    apply ByteArray.ext
    apply Array.ext'
    have hid : ∀ l : List UInt8, (l.map UInt8.toNat).map UInt8.ofNat = l := fun l => by
      rw [List.map_map]
      conv => rhs; rw [← List.map_id l]
      exact List.map_congr_left fun x _ => by simp
    have := congrArg (List.map UInt8.ofNat) h
    rw [hid, hid] at this
    exact this

theorem hitB_dec {s : ByteArray} {i k : Nat} (hk1 : 1 ≤ k) (hk4 : k ≤ 4) (hik : i + k ≤ s.size) (h : hitB s i k) : okB s i = true ∧ decB s i = ((guessB s i k).toNat, k) := by
  obtain ⟨hr, hp⟩ := (hitB_iff s i k hk1 hk4 hik).1 h
  obtain ⟨e, ne⟩ := hit_dec (n := s.size - i) hk1 hk4 (by omega) (byteAt s i).toNat_lt (byteAt s (i + 1)).toNat_lt (byteAt s (i + 2)).toNat_lt (byteAt s (i + 3)).toNat_lt hr hp
  have e' : decB s i = ((guessB s i k).toNat, k) := e
  refine ⟨?_, e'⟩
  unfold okB
  rw [e']
  exact decide_eq_true ne

theorem no_hit {s : ByteArray} {i : Nat} (hi : i < s.size) (h : ∀ m, 1 ≤ m → m ≤ 4 → i + m ≤ s.size → ¬ hitB s i m) : okB s i = false := by
  refine decide_eq_false fun ho => ?_
  obtain ⟨k, hk1, hk4, hkn, hr, hp⟩ := dec_hit (n := s.size - i) (by omega) (byteAt s i).toNat_lt (byteAt s (i + 1)).toNat_lt (byteAt s (i + 2)).toNat_lt (byteAt s (i + 3)).toNat_lt ho
  exact h k hk1 hk4 (by omega) ((hitB_iff s i k hk1 hk4 (by omega)).2 ⟨hr, hp⟩)

/-- The reference's answer: the character, and how many bytes it has; 0, 0: none. -/
def refC (s : ByteArray) (i : Nat) : Nat := if okB s i then (decB s i).1 else 0
def refN (s : ByteArray) (i : Nat) : Nat := if okB s i then (decB s i).2 else 0
theorem ref_yes {s : ByteArray} {i c n : Nat} (h : okB s i = true ∧ decB s i = (c, n)) : c = refC s i ∧ n = refN s i := by
  unfold refC refN
  rw [if_pos h.1, if_pos h.1, h.2]
  exact ⟨rfl, rfl⟩
theorem ref_no {s : ByteArray} {i : Nat} (h : okB s i = false) : 0 = refC s i ∧ 0 = refN s i := by
  unfold refC refN
  rw [h]
  exact ⟨rfl, rfl⟩
theorem ret_next {s : ByteArray} {i c n : Nat} (h : c = refC s i ∧ n = refN s i) :
    Ending.returned (.tuple #[.int .i64 (c : Int), .int .i64 (n : Int)]) = .returned (.tuple #[.int .i64 (refC s i : Int), .int .i64 (refN s i : Int)]) := by rw [h.1, h.2]
theorem ret_next0 {s : ByteArray} {i : Nat} (h : 0 = refC s i ∧ 0 = refN s i) :
    Ending.returned (.tuple #[.int .i64 0, .int .i64 0]) = .returned (.tuple #[.int .i64 (refC s i : Int), .int .i64 (refN s i : Int)]) := by rw [← h.1, ← h.2]; rfl
end Go.Proofs.YtibhohpamnpkcaaGreatDoor

/- Plain facts: characters' bytes and back. -/
namespace Go.Proofs.YtibhohpamnpkcaaGreatDoor

theorem rightC_iff (n : Nat) : rightC n ↔ rightB (n : Int) = true := by
  rw [rightB_iff]; unfold rightC rightZ; omega
theorem putN_len (n : Nat) : 1 ≤ (putN n).length ∧ (putN n).length ≤ 4 := by
  unfold putN
  repeat' split
  all_goals simp
theorem putL_len (n : Nat) : (putL n).length = (putN n).length := by simp [putL]

theorem runeCells_put {n : Nat} (h : rightC n) : Lib.runeCells (n : Int) = (putL n).map byteV := by
  have hb : ∀ x, x ∈ putN n → x < 256 := by
    intro x hx
    unfold rightC at h
    unfold putN at hx
    repeat' split at hx
    all_goals simp at hx; omega
  have e : (putL n).map byteV = (putN n).map fun x : Nat => Value.int .u8 (x : Int) := by
    unfold putL
    rw [List.map_map]
    refine List.map_congr_left fun x hx => ?_
    simp only [Function.comp, byteV]
    rw [UInt8.toNat_ofNat_of_lt' (hb x hx)]
  rw [e]
  unfold rightC at h
  unfold Lib.runeCells
  have hc : n < 128 ∨ (128 ≤ n ∧ n < 2048) ∨ (2048 ≤ n ∧ n < 65536) ∨ 65536 ≤ n := by omega
  rcases hc with h1 | ⟨h1, h2⟩ | ⟨h1, h2⟩ | h1
  · rw [Lib.encodeRuneZ_one (by omega) (by omega), put1 h1]; rfl
  · rw [Lib.encodeRuneZ_two (by omega) (by omega), put2 h1 h2]; simp
  · rw [Lib.encodeRuneZ_three (by omega), put3 h1 h2]; simp
  · rw [Lib.encodeRuneZ_four (by omega) (by omega), put4 h1]; simp

theorem guess_put {n b0 b1 b2 b3 : Nat} (h : rightC n) (hf : firstN (putN n).length b0 b1 b2 b3 = putN n) : guessZ (putN n).length b0 b1 b2 b3 = n := by
  unfold rightC at h
  have hc : n < 128 ∨ (128 ≤ n ∧ n < 2048) ∨ (2048 ≤ n ∧ n < 65536) ∨ 65536 ≤ n := by omega
  rcases hc with h1 | ⟨h1, h2⟩ | ⟨h1, h2⟩ | h1
  · rw [put1 h1] at hf ⊢
    simp [firstN] at hf
    rw [show (([n] : List Nat).length : Int) = 1 from rfl, guess1]
    omega
  · rw [put2 h1 h2] at hf ⊢
    simp [firstN] at hf
    rw [show (([192 + n / 64, 128 + n % 64] : List Nat).length : Int) = 2 from rfl, guess2]
    omega
  · rw [put3 h1 h2] at hf ⊢
    simp [firstN] at hf
    rw [show (([224 + n / 4096, 128 + n / 64 % 64, 128 + n % 64] : List Nat).length : Int) = 3 from rfl, guess3]
    omega
  · rw [put4 h1] at hf ⊢
    simp [firstN] at hf
    rw [show (([240 + n / 262144, 128 + n / 4096 % 64, 128 + n / 64 % 64, 128 + n % 64] : List Nat).length : Int) = 4 from rfl, guess4]
    omega

theorem rightC_lt {n : Nat} (h : rightC n) : n < 1114112 := by unfold rightC at h; omega

/-- A character's bytes at a place are read as it. -/
theorem put_dec {s : ByteArray} {i n : Nat} (h : rightC n) (hi : i + (putL n).length ≤ s.size) (hb : (s.data.toList.drop i).take (putL n).length = putL n) : decB s i = (n, (putL n).length) ∧ okB s i = true := by
  have hl := putN_len n
  rw [putL_len] at hi hb ⊢
  have hf : firstN (putN n).length (byteAt s i).toNat (byteAt s (i + 1)).toNat (byteAt s (i + 2)).toNat (byteAt s (i + 3)).toNat = putN n := by
    rw [← part_nat s i _ hl.1 hl.2 hi, hb, putL_nat (rightC_lt h)]
  have hg := guess_put h hf
  have hh : hitB s i (putN n).length := (hitB_iff s i _ hl.1 hl.2 hi).2 ⟨by
    show rightZ (guessZ _ _ _ _ _)
    rw [hg, ← rightB_iff]; exact (rightC_iff n).1 h, by
    show putN (guessZ _ _ _ _ _).toNat = _
    rw [hg, hf, Int.toNat_natCast]⟩
  have hd := hitB_dec hl.1 hl.2 hi hh
  refine ⟨?_, hd.1⟩
  rw [hd.2]
  show ((guessZ _ _ _ _ _).toNat, _) = _
  rw [hg, Int.toNat_natCast]

/-- What is read as a character is its bytes. -/
theorem dec_put {s : ByteArray} {i : Nat} (hi : i < s.size) (ho : okB s i = true) : putL (decB s i).1 = (s.data.toList.drop i).take (decB s i).2 := by
  have ho' : decB s i ≠ (65533, 1) := of_decide_eq_true ho
  obtain ⟨k, hk1, hk4, hkn, hr, hp⟩ := dec_hit (n := s.size - i) (by omega) (byteAt s i).toNat_lt (byteAt s (i + 1)).toNat_lt (byteAt s (i + 2)).toNat_lt (byteAt s (i + 3)).toNat_lt ho'
  have hh : hitB s i k := (hitB_iff s i k hk1 hk4 (by omega)).2 ⟨hr, hp⟩
  have hd := hitB_dec hk1 hk4 (by omega) hh
  rw [hd.2]
  have := congrArg (fun b : ByteArray => b.data.toList) hh.2
  simp only [extract_list] at this
  exact this

/-- The bytes of characters. -/
def putAll (l : List Nat) : List UInt8 := l.flatMap putL
theorem putAll_cons (c : Nat) (l : List Nat) : putAll (c :: l) = putL c ++ putAll l := rfl
theorem putAll_app (a b : List Nat) : putAll (a ++ b) = putAll a ++ putAll b := by unfold putAll; exact List.flatMap_append
theorem putAll_one (c : Nat) : putAll [c] = putL c := by unfold putAll; simp
theorem putAll_len (l : List Nat) : l.length ≤ (putAll l).length ∧ (putAll l).length ≤ 4 * l.length := by
  induction l with
  | nil => simp [putAll]
  | cons c l ih =>
    have := putN_len c
    rw [putAll_cons, List.length_append, putL_len, List.length_cons]; omega

theorem chrs_put_at : ∀ (post pre : List Nat), (∀ c ∈ post, rightC c) → Reach ⟨(putAll (pre ++ post)).toArray⟩ pre (putAll pre).length → chrs ⟨(putAll (pre ++ post)).toArray⟩ = (pre ++ post, none) := by
  intro post
  induction post with
  | nil =>
    intro pre _ hr
    rw [List.append_nil] at hr ⊢
    exact hr.done (by show ¬ _ < (putAll pre).toArray.size; simp)
  | cons c post ih =>
    intro pre hc hr
    have hsz : (⟨(putAll (pre ++ c :: post)).toArray⟩ : ByteArray).size = (putAll pre).length + ((putL c).length + (putAll post).length) := by
      show (putAll (pre ++ c :: post)).toArray.size = _
      rw [putAll_app, putAll_cons]; simp
    have hl := putN_len c
    have hd := put_dec (s := ⟨(putAll (pre ++ c :: post)).toArray⟩) (i := (putAll pre).length) (hc c (by simp)) (by rw [hsz]; omega) (by
      show (((putAll (pre ++ c :: post)).toArray.toList).drop _).take _ = _
      rw [putAll_app, putAll_cons]
      simp)
    have hs := hr.step (by rw [hsz, putL_len]; omega) hd.2
    rw [hd.1] at hs
    have e : (putAll (pre ++ [c])).length = (putAll pre).length + (putL c).length := by rw [putAll_app, putAll_one, List.length_append]
    have := ih (pre ++ [c]) (fun d hd' => hc d (by simp [hd'])) (by rw [e]; simpa using hs)
    simpa using this

theorem chrs_put (l : List Nat) (h : ∀ c ∈ l, rightC c) : chrs ⟨(putAll l).toArray⟩ = (l, none) := by
  have := chrs_put_at l [] h (Reach.zero _)
  simpa using this

theorem put_from (s : ByteArray) : ∀ (f i : Nat), s.size - i ≤ f → i ≤ s.size → (chrsFrom s f i).2 = none → putAll (chrsFrom s f i).1 = s.data.toList.drop i := by
  intro f
  induction f with
  | zero =>
    intro i hf hi _
    have hl : s.data.toList.length = s.size := rfl
    rw [List.drop_eq_nil_of_le (by omega)]; rfl
  | succ f ih =>
    intro i hf hi hn
    have hl : s.data.toList.length = s.size := rfl
    unfold chrsFrom at hn ⊢
    by_cases hlt : i < s.size
    · rw [if_pos hlt] at hn ⊢
      by_cases ho : okB s i = true
      · rw [if_pos ho] at hn ⊢
        have hd := decB_bounds s i hlt
        rw [putAll_cons, ih _ (by omega) (by omega) hn, dec_put hlt ho, ← List.drop_drop, List.take_append_drop]
      · rw [if_neg ho] at hn
        simp at hn
    · rw [if_neg hlt, List.drop_eq_nil_of_le (by omega)]; rfl
theorem put_chrs (s : ByteArray) (h : (chrs s).2 = none) : putAll (chrs s).1 = s.data.toList := put_from s s.size 0 (by omega) (by omega) h
theorem right_from (s : ByteArray) : ∀ (f i : Nat), ∀ c ∈ (chrsFrom s f i).1, rightC c := by
  intro f
  induction f with
  | zero => intro i c h; simp [chrsFrom] at h
  | succ f ih =>
    intro i c h
    unfold chrsFrom at h
    split at h
    · split at h
      · rcases List.mem_cons.1 h with rfl | h
        · exact (decB_bounds s i (by assumption)).2.2.2
        · exact ih _ c h
      · simp at h
    · simp at h
theorem right_chrs (s : ByteArray) : ∀ c ∈ (chrs s).1, rightC c := right_from s s.size 0
end Go.Proofs.YtibhohpamnpkcaaGreatDoor

/- Plain facts: a list of numbers' bytes, or the first one that is no character. -/
namespace Go.Proofs.YtibhohpamnpkcaaGreatDoor

/-- How many of the list's numbers, from its head, are characters. -/
def rightLen : List Int → Nat
  | [] => 0
  | c :: l => if rightB c = true then rightLen l + 1 else 0
def nats (l : List Int) : List Nat := l.map Int.toNat
theorem rightLen_le (l : List Int) : rightLen l ≤ l.length := by
  induction l with
  | nil => exact Nat.le_refl _
  | cons c l ih => unfold rightLen; split <;> simp <;> omega
theorem rightLen_step : ∀ (l : List Int) (i : Nat), i ≤ rightLen l → i < l.length → (rightB (l.getD i 0) = true → i + 1 ≤ rightLen l) ∧ (rightB (l.getD i 0) = false → rightLen l = i) := by
  intro l
  induction l with
  | nil => intro i _ h; simp at h
  | cons c l ih =>
    intro i h1 h2
    unfold rightLen at h1 ⊢
    by_cases hc : rightB c = true
    · rw [if_pos hc] at h1 ⊢
      cases i with
      | zero => exact ⟨fun _ => by omega, fun h => by simp [hc] at h⟩
      | succ i =>
        have := ih i (by omega) (by simpa using h2)
        constructor
        · intro h; have := this.1 (by simpa using h); omega
        · intro h; have := this.2 (by simpa using h); omega
    · rw [if_neg hc] at h1 ⊢
      obtain rfl : i = 0 := by omega
      exact ⟨fun h => absurd (by simpa using h) hc, fun _ => rfl⟩
theorem right_all : ∀ (l : List Int), rightLen l = l.length → ∀ c ∈ nats l, rightC c := by
  intro l
  induction l with
  | nil => intro _ c hc; simp [nats] at hc
  | cons d l ih =>
    intro h c hc
    unfold rightLen at h
    split at h
    · rename_i hd
      simp only [nats, List.map_cons, List.mem_cons] at hc
      rcases hc with rfl | hc
      · have hz := (rightB_iff d).1 hd
        unfold rightZ at hz
        unfold rightC; omega
      · exact ih (by simpa using h) c hc
    · simp at h
theorem nats_take_succ (l : List Int) (i : Nat) (hi : i < l.length) : nats (l.take (i + 1)) = nats (l.take i) ++ [(l.getD i 0).toNat] := by
  unfold nats
  rw [List.take_succ_eq_append_getElem hi, List.map_append]
  simp [hi]
theorem nats_len (l : List Int) : (nats l).length = l.length := by simp [nats]
end Go.Proofs.YtibhohpamnpkcaaGreatDoor

/- The reference's Next of chapter 01. -/
namespace Go.Proofs.YtibhohpamnpkcaaGreatDoor
open Go.RowKit

theorem bytes_cut (w : World) (b off i k cap : Nat) (s : ByteArray) (hi : i + k ≤ s.size) (hp : BytesIn w b off s) :
    (convert 74 9 (.slice (some ⟨b, off + i, none⟩) k cap)).run Tryz.prog w = .ok (.string (s.extract i (i + k))) w := by
  have hl : s.data.toList.length = s.size := rfl
  have h := run_convert_bytes_back (P := Tryz.prog) w 74 9 5 ⟨b, off + i, none⟩ cap ((s.data.toList.drop i).take k) Tryz.underlying74 Tryz.underlying5 Tryz.underlying9 (fun j hj => by
    have hj' : j < k := by simp [hl] at hj; omega
    have := hp (i + j) (by omega)
    rw [Addr.add_lit, Nat.add_assoc, this]
    have hlt : i + j < s.data.toList.length := by omega
    simp only [byteAt, List.getD, List.getElem_take, List.getElem_drop]
    rw [List.getElem?_eq_getElem hlt]; rfl)
  have hlen : ((s.data.toList.drop i).take k).length = k := by simp [hl]; omega
  rw [hlen] at h
  rw [h, Lib.extract_eq, Nat.add_sub_cancel_left]

def SNext (b off : Nat) (s : ByteArray) (W : World) : Prop := BytesIn W b off s

theorem SNext.put {b off : Nat} {s : ByteArray} {W w2 : World} (h : SNext b off s W) (hb : b < W.heap.size) (h2 : Below W.drew.heap.size W.drew w2) : SNext b off s w2 :=
  BytesIn.below (B := W.heap.size) (w := W) h (((Below.refl W.heap.size W).drew).trans h2) hb

set_option maxHeartbeats 3200000 in
set_option maxRecDepth 100000 in
theorem ref_Next (s : ByteArray) (i b off cap : Nat) (w : World) (hi : i < s.size) (hs : s.size ≤ 16777216) (hc : s.size ≤ cap) (hcap : cap ≤ 9223372036854775807) (hbs : b < w.heap.size) (hp : BytesIn w b off s) :
    Calls Tryz.prog 102 #[.slice (some ⟨b, off, none⟩) s.size cap, .int .i64 (i : Int)] w fun e w' => e = .returned (.tuple #[.int .i64 (refC s i : Int), .int .i64 (refN s i : Int)]) ∧ Below w.heap.size w w' := by
  go_enter Tryz.func102, Tryz.ntmps102
  go_wp2_with fail
  go_loopw [6] (fun k wr => ∃ j : Nat, 1 ≤ j ∧ j ≤ 5 ∧ k = .int .i64 j ∧ (∀ m, 1 ≤ m → m < j → i + m ≤ s.size → ¬ hitB s i m) ∧ Below w.heap.size w wr)
    (fun k _ => 6 - (intOf k).toNat)
  case atStart => exact ⟨1, by omega, by omega, rfl, fun m _ _ => by omega, Below.refl _ _⟩
  case round =>
    obtain ⟨k, hk1, hk5, rfl, hall, hbr⟩ := hrel
    have HA := Lib.hid hall
    clear hall
    by_cases hk4 : k ≤ 4 ∧ i + k ≤ s.size
    · obtain ⟨hk4, hik⟩ := hk4
      have hcx := bytes_cut wr b off i k (cap - i) s hik (hp.below hbr hbs)
      have t1 : (k : Int) ≤ 4 := by omega
      have t2 : (i : Int) + (k : Int) ≤ (s.size : Int) := by omega
      go_wp2_with fail
      refine (ref_guess s i k b off cap _ hk1 hk4 hik (by omega) (hp.below hbr hbs)).mono ?_
      rintro e w2 ⟨rfl, rfl⟩
      generalize hg : guessB s i k = g at *
      have HG := Lib.hid hg
      clear hg
      by_cases hr : rightB g = true
      · have cR : ∀ W : World, Calls Tryz.prog 135 #[.int .i64 g] W fun e w' => e = .returned (.bool true) ∧ W = w' := fun W => (ref_Right g W).mono fun _ _ ⟨a, b⟩ => ⟨by rw [a, hr], b⟩
        have CR := Lib.hid cR
        clear cR
        have hrz := (rightB_iff g).1 hr
        unfold rightZ at hrz
        obtain ⟨hz0, hz1, _⟩ := hrz
        obtain ⟨n, rfl⟩ := Int.eq_ofNat_of_zero_le hz0
        have cP : ∀ W : World, Calls Tryz.prog 136 #[.int .i64 (n : Int)] W fun e w' =>
            ∃ g, e = .returned (.slice (some ⟨g, 0, none⟩) (putL n).length (putL n).length) ∧ Below W.heap.size W w' ∧ (convert 74 9 (.slice (some ⟨g, 0, none⟩) (putL n).length (putL n).length)).run Tryz.prog w' = .ok (.string ⟨(putL n).toArray⟩) w' :=
          fun W => (ref_Put n (by omega) W).mono fun e w' ⟨h1, h2, h3, _⟩ => ⟨_, h1, h2, run_back w' _ _ 5 _ _ _ Tryz.underlying74 Tryz.underlying5 Tryz.underlying9 h3⟩
        have CP := Lib.hid cP
        clear cP
        have HC : ∀ W : World, BytesIn W b off s → (convert 74 9 (.slice (some ⟨b, off + i, none⟩) k (cap - i))).run Tryz.prog W = .ok (.string (s.extract i (i + k))) W := fun W hW => bytes_cut W b off i k (cap - i) s hik hW
        have HD := Lib.hid HC
        clear HC
        have hpr := hp.below hbr hbs
        have hbsr : b < wr.heap.size := Nat.lt_of_lt_of_le hbs hbr.size
        go_upto_region 5 with (fail)
        generalize hps : (⟨(putL n).toArray⟩ : ByteArray) = ps at *
        generalize hxs : s.extract i (i + k) = xs at *
        generalize (putL n).length = ln at *
        have HP := Lib.hid (And.intro hps hxs)
        clear hps hxs
        have z1 : IntKind.i64.wrap ((i : Int) + (k : Int)) = (i : Int) + (k : Int) := IntWalk.i64_in _ (by omega)
        have z2 : (0 : Int) ≤ (i : Int) + (k : Int) := by omega
        have z3 : ((i : Int) + (k : Int)).toNat = i + k := by omega
        have z4 : i + k - i = k := by omega
        have z5 : (0 : Int) ≤ (i : Int) := by omega
        have z6 : (i : Int) ≤ (i : Int) + (k : Int) := by omega
        have z7 : (i : Int) + (k : Int) ≤ (cap : Int) := by omega
        have z8 : ¬ cap = i := by omega
        go_cut [38] (fun c wx => c = .bool (ps.toList == xs.toList) ∧ Below wr.heap.size wr wx)
        case first =>
          have hS0 : SNext b off s wr := hpr
          have hS1 : SNext b off s wr.drew := hpr
          have hcd := HD.out wr.drew hpr
          go_region_held (SNext b off s) (first | exact hp2 | exact hS1)
            (first
            | (go_at_call 135; refine (CR.out _).mono ?_; rintro e w' ⟨rfl, rfl⟩)
            | (go_at_call 136; refine (CP.out _).mono ?_; rintro e w2 ⟨g, rfl, hb2, hB2⟩; have hp2 := hS0.put hbsr hb2; have hc2 := HD.out w2 hp2; have hbw2 := ((Below.refl wr.heap.size wr).drew).trans hb2; clear hb2; dsimp only))
          all_goals clear z1 z2 z3 z4 z5 z6 z7 z8
          all_goals (go_wp2_with fail; go_meet; exact ⟨rfl, hbw2⟩)
        case rest =>
          obtain ⟨rfl, hbx⟩ := hcut
          have hbx := Bt hbr hbx
          clear z1 z2 z3 z4 z5 z6 z7 z8 CP CR HD hcx hpr hbsr
          by_cases hh : ps = xs
          · have hl : (ps.toList == xs.toList) = true := by rw [hh]; exact beq_self_eq_true _
            have hd := hitB_dec (s := s) (i := i) hk1 hk4 hik ⟨by rw [HG.out]; exact hr, by rw [HG.out, Int.toNat_natCast, HP.out.1, HP.out.2, hh]⟩
            rw [HG.out, Int.toNat_natCast] at hd
            have HD := Lib.hid (ref_yes hd)
            clear hd hr
            rw [hl]
            clear hl hh HP HG hp hbs t1 t2 HA
            go_wp2_with fail
            go_ret2
            exact ⟨ret_next HD.out, hbx⟩
          · have hl : (ps.toList == xs.toList) = false := by
              rw [beq_eq_false_iff_ne]
              intro e
              rw [ByteArray.toList_eq, ByteArray.toList_eq] at e
              exact hh (ByteArray.ext (Array.ext' e))
            have hno : ¬ hitB s i k := fun ⟨_, e⟩ => hh (by rw [HG.out, Int.toNat_natCast, HP.out.1, HP.out.2] at e; exact e)
            have hall : ∀ m, 1 ≤ m → m < k + 1 → i + m ≤ s.size → ¬ hitB s i m := fun m h1 h2 h3 => by
              by_cases hmk : m = k
              · rw [hmk]; exact hno
              · exact HA.out m h1 (by omega) h3
            have HALL := Lib.hid hall
            clear hall hno hr hh
            rw [hl]
            clear hl
            go_wp2_with fail
            go_roundw
            case rel => exact ⟨k + 1, by omega, by omega, by go_num, HALL.out, hbx⟩
            case measure => simp [intOf]; omega
      · have hr : rightB g = false := by simpa using hr
        have cR : ∀ W : World, Calls Tryz.prog 135 #[.int .i64 g] W fun e w' => e = .returned (.bool false) ∧ W = w' := fun W => (ref_Right g W).mono fun _ _ ⟨a, b⟩ => ⟨by rw [a, hr], b⟩
        have hno : ¬ hitB s i k := fun ⟨e, _⟩ => by rw [HG.out, hr] at e; cases e
        have hall : ∀ m, 1 ≤ m → m < k + 1 → i + m ≤ s.size → ¬ hitB s i m := fun m h1 h2 h3 => by
          by_cases hmk : m = k
          · rw [hmk]; exact hno
          · exact HA.out m h1 (by omega) h3
        have HALL := Lib.hid hall
        have CR := Lib.hid cR
        clear hall hno hr cR hcx
        go_upto_region 5 with (fail)
        go_cut [38] (fun c wx => c = .bool false ∧ Below wr.heap.size wr wx)
        case first =>
          go_quiet ((go_at_call 135; exact Calls.quiet_of_same ((CR.out _).mono fun _ _ ⟨a, b⟩ => ⟨a, b.symm⟩)))
          go_wp2_with fail
          go_meet
          exact ⟨rfl, below_drewN (Below.refl _ _) _⟩
        case rest =>
          obtain ⟨rfl, hbx⟩ := hcut
          have hbx := Bt hbr hbx
          go_wp2_with fail
          go_roundw
          case rel => exact ⟨k + 1, by omega, by omega, by go_num, HALL.out, hbx⟩
          case measure => simp [intOf]; omega
    · have hno : okB s i = false := no_hit hi fun m h1 h2 h3 => HA.out m h1 (by omega) h3
      have HN := Lib.hid (ref_no hno)
      clear hno
      have hk' : 5 ≤ k ∨ (k ≤ 4 ∧ s.size < i + k) := by omega
      clear hk4
      rcases hk' with h | ⟨h, h'⟩
      all_goals
        go_wp2_with fail
        go_ret2
        exact ⟨ret_next0 HN.out, hbr⟩
end Go.Proofs.YtibhohpamnpkcaaGreatDoor

/- The reference's Text and Chars of chapter 01. -/
namespace Go.Proofs.YtibhohpamnpkcaaGreatDoor
open Go.RowKit

theorem put_sl {w : World} {g d : Nat} (h : BytesAt w g (putL d)) : BytesSl w (.slice (some ⟨g, 0, none⟩) (putL d).length (putL d).length) ⟨(putL d).toArray⟩ := by
  have h5 : (⟨(putL d).toArray⟩ : ByteArray).size = (putL d).length := by show (putL d).toArray.size = _; simp
  have hl := putN_len d
  refine .inr ⟨g, 0, _, by rw [h5], by rw [h5]; exact Nat.le_refl _, by rw [putL_len]; unfold maxLen; omega, h.lt, ?_⟩
  exact BytesAt.isIn (s := ⟨(putL d).toArray⟩) h
theorem putL_le (d : Nat) : (putL d).length ≤ 4 := by rw [putL_len]; exact (putN_len d).2

def RTextPost (l : List Int) (w : World) (e : Ending) (w' : World) : Prop :=
  Below w.heap.size w w' ∧ ((rightLen l = l.length ∧ ∃ v, e = .returned (.tuple #[v, .int .i64 (-1)]) ∧ OwnB w' w.heap.size v (putAll (nats l))) ∨
    (rightLen l < l.length ∧ ∃ a, e = .returned (.tuple #[.slice a 0 0, .int .i64 (rightLen l : Int)])))

def RCharsPost (s : ByteArray) (w : World) (e : Ending) (w' : World) : Prop :=
  Below w.heap.size w w' ∧ (((chrs s).2 = none ∧ ∃ v, e = .returned (.tuple #[v, .int .i64 (-1)]) ∧ w'.ownsRow w.heap.size 3 1 v (chrs s).1.length ((chrs s).1.map intV)) ∨
    (∃ i : Nat, (chrs s).2 = some i ∧ ∃ a, e = .returned (.tuple #[.slice a 0 0, .int .i64 (i : Int)])))

theorem own_empty (w : World) (base : Nat) (hb : base ≤ w.heap.size) : (w.alloc (.cells #[] 3)).ownsRow base 3 1 (.slice (some ⟨w.heap.size, 0, none⟩) 0 0) 0 (([] : List Nat).map intV) :=
  World.ownsRow_lit w #[] 0 hb (Nat.zero_le _) rfl

set_option maxHeartbeats 1600000 in
set_option maxRecDepth 100000 in
theorem ref_Chars (v : Value) (s : ByteArray) (w : World) (hs : s.size ≤ 16777216) (hv : BytesSl w v s) :
    Calls Tryz.prog 78 #[v] w (RCharsPost s w) := by
  rcases hv with ⟨h0, a, cap, rfl⟩ | ⟨b, off, cap, rfl, hc, hcm, hbs, hp⟩
  · have hz := Lib.hid ((Reach.zero s).done (by omega))
    clear h0
    go_enter Tryz.func78, Tryz.ntmps78
    go_wp2_with fail
    refine wp_loop_rounds 1 ?_
    rw [rounds_succ]
    go_wp2_with fail
    go_ret2
    exact ⟨(Below.refl _ _).alloc (Nat.le_refl _) _, .inl ⟨by rw [hz.out], _, rfl, by rw [hz.out]; exact own_empty w _ (Nat.le_refl _)⟩⟩
  · obtain ⟨i0, hi, hz0, hz1, hz2⟩ := info_parts info_int
    unfold maxLen at hcm
    go_enter Tryz.func78, Tryz.ntmps78
    go_wp2_with fail
    go_loopw [4, 5] (fun v a wr => ∃ (i : Nat) (l : List Nat), i ≤ s.size ∧ a = .int .i64 i ∧ Reach s l i ∧ wr.ownsRow w.heap.size 3 1 v l.length (l.map intV) ∧ Below w.heap.size w wr)
      (fun _ a _ => s.size - (intOf a).toNat)
    case atStart => exact ⟨0, [], Nat.zero_le _, rfl, Reach.zero s, own_empty w _ (Nat.le_refl _), (Below.refl _ _).alloc (Nat.le_refl _) _⟩
    case round =>
      obtain ⟨i, l, hil, rfl, hr, hown, hbr⟩ := hrel
      have hll : l.length ≤ i := by obtain ⟨_, _, h, _⟩ := hr; exact h
      have HR := Lib.hid hr
      clear hr
      by_cases hlt : i < s.size
      · obtain ⟨hd1, hd2, hd3, hd4⟩ := decB_bounds s i hlt
        clear hd4
        go_wp2_with fail
        refine (ref_Next s i b off cap _ hlt hs hc hcm (Nat.lt_of_lt_of_le hbs hbr.size) (hp.below hbr hbs)).mono ?_
        rintro e w2 ⟨rfl, hb2⟩
        have hown2 := ownsRow_below hown hb2
        have hbr2 := Bt hbr hb2
        clear hown hbr hb2
        by_cases hok : okB s i = true
        · have hst := HR.out.step hlt hok
          have hrr : (decB s i).1 = refC s i ∧ (decB s i).2 = refN s i := ref_yes ⟨hok, rfl⟩
          rw [← hrr.1, ← hrr.2]
          clear hrr
          generalize (decB s i).1 = c at *
          generalize (decB s i).2 = n at *
          have HST := Lib.hid hst
          have e0 : ((n : Int) == 0) = false := by rw [beq_eq_false_iff_ne]; omega
          clear hst hok
          go_wp2_with (at_builtin; refine wpList_append_own _ rfl _ _ 166 rfl w.heap.size 3 i0 (.int .i64 0) 1 8 Tryz.underlying166 hi hz0 hz1 hz2 rfl (by decide) _ _ _ rfl (hown2.alloc _) ⟨w2.heap.size, 0, none⟩ 1 1 [intV c] rfl rfl ?c1 ?c2 ?c3 ?c4 ?c5 ?_)
          case c1 =>
            intro j u hj
            match j, hj with
            | 0, hj => simp at hj; subst hj; simp [Addr.add, intV]
          case c2 => intro u hu; simp at hu; subst hu; rfl
          case c3 => unfold maxLen; omega
          case c4 => omega
          case c5 => have := hbr2.size; simp; omega
          intro v1 w3 hown3 hg3 _
          have hbr3 := below_app hbr2 hown2 (Nat.le_refl _) hg3
          clear hg3 hown2 hbr2
          go_wp2_with fail
          go_roundw
          case rel => exact ⟨i + n, l ++ [c], by omega, by go_num, HST.out, by simpa using hown3, hbr3⟩
          case measure => simp [intOf]; omega
        · have hok : okB s i = false := by simpa using hok
          have hb := Lib.hid (HR.out.bad hlt hok)
          have hrr := ref_no hok
          rw [← hrr.1, ← hrr.2]
          clear hrr hok
          go_wp2_with fail
          go_ret2
          exact ⟨hbr2.alloc hbr2.size _, .inr ⟨i, by rw [hb.out], _, rfl⟩⟩
      · have hb := Lib.hid (HR.out.done hlt)
        obtain rfl : i = s.size := by omega
        go_wp2_with fail
        go_ret2
        exact ⟨hbr, .inl ⟨by rw [hb.out], _, rfl, by rw [hb.out]; exact hown⟩⟩
end Go.Proofs.YtibhohpamnpkcaaGreatDoor

/- A string's bytes, as a slice that reads as the string. -/
namespace Go.Proofs.YtibhohpamnpkcaaGreatDoor
open Go.RowKit

section
variable {P : Program}
theorem wpList_bytes_sl {ops : Array Oper} {rest : List Oper} {o : Oper} {a : Act} {w : World} {Q : Exit → Act → World → Prop} (hgd : o.guard = none) (src dst e : TypeId) (x : Operand)
    (ho : o.op = .convert src dst x) (s : ByteArray) (hx : a.eval x = .string s) (hs : P.underlying src = some .string) (hd : P.underlying dst = some (.slice e)) (he : P.underlying e = some (.int .u8)) (hm : s.size ≤ 140737488351232)
    (h : ∀ (v : Value) (w' : World), BytesSl w' v s → Below w.heap.size w w' → wpList P ops Q rest (a.put o.dst v) w') : wpList P ops Q (o :: rest) a w := by
  refine wpList_plain hgd fun K hK => ?_
  unfold Oper.wp execOp
  have hr := run_bytes_of_string (P := P) w src dst e s hs hd he
  simp only [ho, hx, Sem.run_bind, hr, Result.andThen_ok, Sem.run_pure]
  refine hK _ _ (h _ _ (.inr ⟨w.heap.size, 0, grownCap w s.size 0 e, rfl, grownCap_ge w s.size 0 e, grownCap_le_maxLen w s.size 0 e (by unfold maxLen; omega), by simp, BytesAt.isIn ?_⟩) ((((Below.refl _ _).drew).alloc (Nat.le_refl _) _)))
  refine ⟨e, List.replicate (grownCap w s.size 0 e - s.size) (Value.int .u8 0), _, s.data.toList.length + (List.replicate (grownCap w s.size 0 e - s.size) (Value.int .u8 0)).length + 1, .inr (Nat.le_refl _), ?_⟩
  refine (heap_alloc_new w.drew _).trans ?_
  have hb : bytesRow s (grownCap w s.size 0 e) = (List.map byteV s.data.toList ++ List.replicate (grownCap w s.size 0 e - s.size) (Value.int .u8 0)).toArray := by
    unfold bytesRow
    apply Array.ext'
    simp [byteV]
  have hsz : (bytesRow s (grownCap w s.size 0 e)).size = s.data.toList.length + (List.replicate (grownCap w s.size 0 e - s.size) (Value.int .u8 0)).length := by
    rw [hb]; simp
  rw [hsz, hb]
end
end Go.Proofs.YtibhohpamnpkcaaGreatDoor

/- Which characters may stand in a label. -/
namespace Go.Proofs.YtibhohpamnpkcaaGreatDoor
open Go.RowKit

def inSpan (c : Int) : Prop := (223 ≤ c ∧ c ≤ 246) ∨ (248 ≤ c ∧ c ≤ 8191) ∨ (11264 ≤ c ∧ c ≤ 12287) ∨ (12293 ≤ c ∧ c ≤ 55295) ∨ (63744 ≤ c ∧ c ≤ 64975) ∨ (65008 ≤ c ∧ c ≤ 65023) ∨ (65536 ≤ c ∧ c ≤ 262143)
instance (c : Int) : Decidable (inSpan c) := by unfold inSpan; infer_instance
/-- May a character from 128 on stand in a label? -/
def charZ (c : Int) : Bool := decide (inSpan c ∧ c % 65536 < 65534)
theorem and_fffe (n : Nat) : n &&& 65534 = 2 * (n / 2 % 32768) := by
  have h1 : (n &&& 65534) / 2 = n / 2 % 32768 := by
    rw [Nat.and_div_two]
    exact Nat.and_two_pow_sub_one_eq_mod (n / 2) 15
  have h2 : (n &&& 65534) % 2 = 0 := by
    have := Nat.and_mod_two_pow (a := n) (b := 65534) (n := 1)
    simpa using this
  omega
theorem bits_fffe (n : Nat) (h : n < 2147483648) : bits .and .i64 (n : Int) 65534 = ((2 * (n / 2 % 32768) : Nat) : Int) := by
  show IntKind.i64.wrap ((BitVec.ofInt 64 (n : Int) &&& BitVec.ofInt 64 65534).toNat : Int) = _
  have e : (BitVec.ofInt 64 (n : Int) &&& BitVec.ofInt 64 65534).toNat = n &&& 65534 := by
    rw [BitVec.toNat_and]
    congr 1
    rw [BitVec.ofInt_natCast, BitVec.toNat_ofNat]
    exact Nat.mod_eq_of_lt (by omega)
  rw [e, and_fffe]
  exact IntWalk.i64_in _ ⟨by omega, by omega⟩
theorem char_in {c : Int} (h : inSpan c) : charZ c = (bits .and .i64 c 65534 != 65534) := by
  obtain ⟨n, rfl⟩ : ∃ n : Nat, c = n := ⟨c.toNat, by unfold inSpan at h; omega⟩
  have hn : n ≤ 262143 := by unfold inSpan at h; omega
  rw [bits_fffe n (by omega)]
  unfold charZ
  by_cases h2 : (n : Int) % 65536 < 65534
  · rw [decide_eq_true ⟨h, h2⟩]
    symm
    rw [bne_iff_ne]
    omega
  · rw [decide_eq_false (fun hh => h2 hh.2)]
    symm
    rw [bne_eq_false_iff_eq]
    omega
theorem char_out {c : Int} (h : ¬ inSpan c) : charZ c = false := decide_eq_false fun hh => h hh.1
end Go.Proofs.YtibhohpamnpkcaaGreatDoor

/- Characters as letters and digits, in plain words: the bias, a number's digits, the encoding. -/
namespace Go.Proofs.YtibhohpamnpkcaaGreatDoor

def adaptL : Nat → Nat → Nat → Nat
  | 0, d, k => k + 36 * d / (d + 38)
  | f + 1, d, k => if 455 < d then adaptL f (d / 35) (k + 36) else k + 36 * d / (d + 38)
theorem adaptL_go {f d k : Nat} (h : 455 < d) : adaptL (f + 1) d k = adaptL f (d / 35) (k + 36) := by rw [adaptL, if_pos h]
theorem adaptL_end {f d k : Nat} (h : ¬ 455 < d) : adaptL f d k = k + 36 * d / (d + 38) := by
  cases f with
  | zero => rfl
  | succ f => rw [adaptL, if_neg h]
theorem adaptL_le : ∀ (f d k : Nat), adaptL f d k ≤ k + 36 * d + 36 := by
  have hb : ∀ d k, k + 36 * d / (d + 38) ≤ k + 36 * d + 36 := fun d k => by
    have : 36 * d / (d + 38) ≤ 36 * d := Nat.div_le_self _ _
    omega
  intro f
  induction f with
  | zero => intro d k; exact hb d k
  | succ f ih =>
    intro d k
    by_cases h : 455 < d
    · rw [adaptL_go h]
      have := ih (d / 35) (k + 36)
      omega
    · rw [adaptL_end h]
      exact hb d k
/-- What the loop begins with. -/
def adapt0 (delta count : Nat) (first : Bool) : Nat :=
  let d0 := if first then delta / 700 else delta / 2
  d0 + d0 / count
def adaptN (delta count : Nat) (first : Bool) : Nat := adaptL (adapt0 delta count first) (adapt0 delta count first) 0
/-- The bias behind any number. -/
def adaptZ (delta count : Int) (first : Bool) : Int := if delta < 0 ∨ count < 1 then 0 else (adaptN delta.toNat count.toNat first : Int)
theorem adapt0_le (delta count : Nat) (first : Bool) : adapt0 delta count first ≤ delta := by
  unfold adapt0
  have h1 : ∀ x, x / count ≤ x := fun x => Nat.div_le_self _ _
  cases first
  · have := h1 (delta / 2); simp; omega
  · have := h1 (delta / 700); simp; omega
theorem adaptN_le (delta count : Nat) (first : Bool) : adaptN delta count first ≤ 36 * delta + 36 := by
  have h1 := adapt0_le delta count first
  have h2 := adaptL_le (adapt0 delta count first) (adapt0 delta count first) 0
  unfold adaptN
  omega
def thrN (k b : Nat) : Nat := min (max (k - b) 1) 26
theorem thrN_range (k b : Nat) : 1 ≤ thrN k b ∧ thrN k b ≤ 26 := by unfold thrN; omega
def digN (n : Nat) : UInt8 := if n < 26 then UInt8.ofNat (97 + n) else UInt8.ofNat (22 + n)
/-- A number's digits, from a place on. -/
def numLp : Nat → Nat → Nat → Nat → List UInt8
  | 0, n, _, _ => [digN n]
  | f + 1, n, k, b => if n < thrN k b then [digN n] else digN (thrN k b + (n - thrN k b) % (36 - thrN k b)) :: numLp f ((n - thrN k b) / (36 - thrN k b)) (k + 36) b
theorem numL_last {f n k b : Nat} (h : n < thrN k b) : numLp f n k b = [digN n] := by
  cases f with
  | zero => rfl
  | succ f => rw [numLp, if_pos h]
theorem numL_more {f n k b : Nat} (h : ¬ n < thrN k b) : numLp (f + 1) n k b = digN (thrN k b + (n - thrN k b) % (36 - thrN k b)) :: numLp f ((n - thrN k b) / (36 - thrN k b)) (k + 36) b := by
  rw [numLp, if_neg h]
theorem num_less {n k b : Nat} (h : ¬ n < thrN k b) : (n - thrN k b) / (36 - thrN k b) < n ∧ 10 * ((n - thrN k b) / (36 - thrN k b)) ≤ n := by
  have ht := thrN_range k b
  have h1 : (n - thrN k b) / (36 - thrN k b) ≤ (n - thrN k b) / 10 := Nat.div_le_div_left (by omega) (by omega)
  omega
theorem numL_len : ∀ (e f n k b : Nat), n < 10 ^ e → (numLp f n k b).length ≤ e + 1 := by
  intro e
  induction e with
  | zero =>
    intro f n k b h
    have h0 : n = 0 := by simp at h; exact h
    subst h0
    rw [numL_last (by have := thrN_range k b; omega)]
    simp
  | succ e ih =>
    intro f n k b h
    by_cases hn : n < thrN k b
    · rw [numL_last hn]; simp
    · cases f with
      | zero => rw [numLp]; simp
      | succ f =>
        rw [numL_more hn]
        have h2 := (num_less hn).2
        have := ih f ((n - thrN k b) / (36 - thrN k b)) (k + 36) b (by rw [Nat.pow_succ] at h; omega)
        simp only [List.length_cons]
        omega
def numD (n b : Nat) : List UInt8 := numLp n n 36 b
theorem numD_len {n b : Nat} (h : n < 1000000000) : (numD n b).length ≤ 10 := numL_len 9 n n 36 b (by simpa using h)

/-- How far the encoding has come. -/
structure PStp where
  delta : Nat
  bias : Nat
  h : Nat
  out : List UInt8
/-- One character, where m is the least of those that aren't told. -/
def stepC (m basic : Nat) (s : PStp) (c : Nat) : PStp :=
  if c < m then ⟨s.delta + 1, s.bias, s.h, s.out⟩
  else if c = m then ⟨0, adaptN s.delta (s.h + 1) (decide (s.h = basic)), s.h + 1, s.out ++ numD s.delta s.bias⟩
  else s
def roundC (cs : List Nat) (basic m n : Nat) (s : PStp) : PStp := cs.foldl (stepC m basic) ⟨s.delta + (m - n) * (s.h + 1), s.bias, s.h, s.out⟩
def nextC (s : PStp) : PStp := ⟨s.delta + 1, s.bias, s.h, s.out⟩
def encR (cs : List Nat) (basic : Nat) : List Nat → Nat → PStp → PStp
  | [], _, s => s
  | m :: ms, n, s => encR cs basic ms (m + 1) (nextC (roundC cs basic m n s))
def insU (c : Nat) : List Nat → List Nat
  | [] => [c]
  | x :: l => if c < x then c :: x :: l else if c = x then x :: l else x :: insU c l
/-- The characters from 128 on, each once, from the least to the greatest. -/
def markL (cs : List Nat) : List Nat := cs.foldr (fun c l => if c < 128 then l else insU c l) []
def basicL (cs : List Nat) : List UInt8 := (cs.filter fun c => decide (c < 128)).map UInt8.ofNat
def basicO (cs : List Nat) : List UInt8 := if (basicL cs).length = 0 then [] else basicL cs ++ [45]
def encN (cs : List Nat) : List UInt8 := (encR cs (basicL cs).length (markL cs) 128 ⟨0, 72, (basicL cs).length, basicO cs⟩).out
theorem sp09 : encN [98, 252, 99, 104, 101, 114] = [98, 99, 104, 101, 114, 45, 107, 118, 97] := by decide +kernel

theorem insU_mem (c : Nat) : ∀ (l : List Nat) (x : Nat), x ∈ insU c l ↔ x = c ∨ x ∈ l := by
  intro l
  induction l with
  | nil => intro x; simp [insU]
  | cons y l ih =>
    intro x
    unfold insU
    by_cases h1 : c < y
    · rw [if_pos h1]; simp
    · rw [if_neg h1]
      by_cases h2 : c = y
      · rw [if_pos h2]; subst h2; simp
      · rw [if_neg h2, List.mem_cons, ih, List.mem_cons]
        constructor
        · rintro (h | h | h) <;> simp [h]
        · rintro (h | h | h) <;> simp [h]
theorem insU_up (c : Nat) : ∀ (l : List Nat), l.Pairwise (· < ·) → (insU c l).Pairwise (· < ·) := by
  intro l
  induction l with
  | nil => intro _; simp [insU]
  | cons y l ih =>
    intro h
    unfold insU
    have h' := List.pairwise_cons.1 h
    by_cases h1 : c < y
    · rw [if_pos h1, List.pairwise_cons]
      refine ⟨fun x hx => ?_, h⟩
      rcases List.mem_cons.1 hx with rfl | hx
      · exact h1
      · have := h'.1 x hx; omega
    · rw [if_neg h1]
      by_cases h2 : c = y
      · rw [if_pos h2]; exact h
      · rw [if_neg h2, List.pairwise_cons]
        refine ⟨fun x hx => ?_, ih h'.2⟩
        rcases (insU_mem c l x).1 hx with rfl | hx
        · omega
        · exact h'.1 x hx
theorem markL_up (cs : List Nat) : (markL cs).Pairwise (· < ·) := by
  unfold markL
  induction cs with
  | nil => simp
  | cons c cs ih =>
    rw [List.foldr_cons]
    split
    · exact ih
    · exact insU_up _ _ ih
theorem markL_mem (cs : List Nat) (x : Nat) : x ∈ markL cs ↔ x ∈ cs ∧ 128 ≤ x := by
  unfold markL
  induction cs with
  | nil => simp
  | cons c cs ih =>
    rw [List.foldr_cons]
    split
    · rename_i h
      rw [ih, List.mem_cons]
      exact ⟨fun ⟨a, b⟩ => ⟨.inr a, b⟩, fun ⟨a, b⟩ => ⟨a.resolve_left (by omega), b⟩⟩
    · rename_i h
      rw [insU_mem, ih, List.mem_cons]
      constructor
      · rintro (rfl | ⟨a, b⟩)
        · exact ⟨.inl rfl, by omega⟩
        · exact ⟨.inr a, b⟩
      · rintro ⟨rfl | a, b⟩
        · exact .inl rfl
        · exact .inr ⟨a, b⟩
theorem up_unique : ∀ (l l' : List Nat), l.Pairwise (· < ·) → l'.Pairwise (· < ·) → (∀ x, x ∈ l ↔ x ∈ l') → l = l' := by
  intro l
  induction l with
  | nil =>
    intro l' _ _ h
    cases l' with
    | nil => rfl
    | cons x l' => exact absurd ((h x).2 (by simp)) (by simp)
  | cons a l ih =>
    intro l' h1 h2 h
    cases l' with
    | nil => exact absurd ((h a).1 (by simp)) (by simp)
    | cons b l' =>
      have h1' := List.pairwise_cons.1 h1
      have h2' := List.pairwise_cons.1 h2
      have hab : a = b := by
        rcases List.mem_cons.1 ((h a).1 (by simp)) with e | e
        · exact e
        · rcases List.mem_cons.1 ((h b).2 (by simp)) with e' | e'
          · exact e'.symm
          · have := h2'.1 a e; have := h1'.1 b e'; omega
      subst hab
      congr 1
      refine ih l' h1'.2 h2'.2 fun x => ⟨fun hx => ?_, fun hx => ?_⟩
      · rcases List.mem_cons.1 ((h x).1 (by simp [hx])) with rfl | e
        · exact absurd (h1'.1 x hx) (by omega)
        · exact e
      · rcases List.mem_cons.1 ((h x).2 (by simp [hx])) with rfl | e
        · exact absurd (h2'.1 x hx) (by omega)
        · exact e

/-! ### Bounds -/
/-- How great what is kept may be. -/
def PBound (b n : Nat) (s : PStp) : Prop := s.delta ≤ 257 * n ∧ s.bias ≤ 20000000000 ∧ s.h ≤ b
theorem count_step (m basic : Nat) (s : PStp) (c : Nat) : (stepC m basic s c).delta ≤ s.delta + 1 := by
  unfold stepC
  split
  · exact Nat.le_refl _
  · split
    · exact Nat.zero_le _
    · exact Nat.le_succ _
end Go.Proofs.YtibhohpamnpkcaaGreatDoor
