/- The reference's Half, Right, Put, guess, of chapter 01. -/
import Derived.Test.YtakcfgmibijdnaaGreatDoorQueryWritesM10
import Derived.Test.YtakcfgmibijdnaaGreatDoorQueryWritesM3
import Derived.Test.YtakcfgmibijdnaaGreatDoorQueryWritesM1
import Derived.Test.YtakcfgmibijdnaaGreatDoorShelf
import Derived.Test.YtakcfgmibijdnaaGreatDoorQueryWritesM11
import Derived.Lib.RuneBytes

namespace Go.Proofs.YtakcfgmibijdnaaGreatDoor
open Go.RowKit

def halfZ (n : Int) : Int := if 55296 ≤ n ∧ n < 56320 then 1 else if 56320 ≤ n ∧ n < 57344 then 2 else 0
def rightB (n : Int) : Bool := decide (0 ≤ n) && decide (n < 1114112) && decide (halfZ n = 0)
theorem rightB_iff (n : Int) : rightB n = true ↔ rightZ n := by
  unfold rightB rightZ halfZ
  simp only [Bool.and_eq_true, decide_eq_true_eq]
  repeat' split
  all_goals omega

set_option maxHeartbeats 800000 in
theorem ref_Half (n : Int) (w : World) : Calls Tryz.prog 153 #[.int .i64 n] w fun e w' => e = .returned (.int .i64 (halfZ n)) ∧ w = w' := by
  have hc : n < 55296 ∨ (55296 ≤ n ∧ n < 56320) ∨ (56320 ≤ n ∧ n < 57344) ∨ 57344 ≤ n := by omega
  have h0 : n < 55296 ∨ 57344 ≤ n → halfZ n = 0 := by intro h; unfold halfZ; rw [if_neg (by omega), if_neg (by omega)]
  have h1 : 55296 ≤ n ∧ n < 56320 → halfZ n = 1 := by intro h; unfold halfZ; rw [if_pos h]
  have h2 : 56320 ≤ n ∧ n < 57344 → halfZ n = 2 := by intro h; unfold halfZ; rw [if_neg (by omega), if_pos h]
  have H0 := Lib.hid h0
  have H1 := Lib.hid h1
  have H2 := Lib.hid h2
  clear h0 h1 h2
  rcases hc with h | ⟨h, h'⟩ | ⟨h, h'⟩ | h
  all_goals
    go_enter Tryz.func153, Tryz.ntmps153
    go_wp2
    go_ret
  · exact ⟨ret_i64 (H0.out (by omega)).symm, rfl⟩
  · exact ⟨ret_i64 (H1.out (by omega)).symm, rfl⟩
  · exact ⟨ret_i64 (H2.out (by omega)).symm, rfl⟩
  · exact ⟨ret_i64 (H0.out (by omega)).symm, rfl⟩

set_option maxHeartbeats 800000 in
theorem ref_Right (n : Int) (w : World) : Calls Tryz.prog 117 #[.int .i64 n] w fun e w' => e = .returned (.bool (rightB n)) ∧ w = w' := by
  have hd : rightB n = (decide (0 ≤ n) && decide (n < 1114112) && decide (halfZ n = 0)) := rfl
  have HD := Lib.hid hd
  clear hd
  by_cases a1 : 0 ≤ n
  · by_cases a2 : n < 1114112
    · by_cases a3 : halfZ n = 0
      · have e1 : (halfZ n == 0) = true := by rw [beq_iff_eq]; exact a3
        have HR := Lib.hid (show rightB n = true by rw [HD.out, decide_eq_true a1, decide_eq_true a2, decide_eq_true a3]; rfl)
        clear a3
        go_enter Tryz.func117, Tryz.ntmps117
        go_wp2_with fail
        refine (ref_Half n _).mono ?_
        rintro e w1 ⟨rfl, rfl⟩
        go_wp2_with fail
        go_ret
        exact ⟨ret_bool HR.out.symm, rfl⟩
      · have e1 : (halfZ n == 0) = false := by rw [beq_eq_false_iff_ne]; exact a3
        have HR := Lib.hid (show rightB n = false by rw [HD.out, decide_eq_false a3, Bool.and_false])
        clear a3
        go_enter Tryz.func117, Tryz.ntmps117
        go_wp2_with fail
        refine (ref_Half n _).mono ?_
        rintro e w1 ⟨rfl, rfl⟩
        go_wp2_with fail
        go_ret
        exact ⟨ret_bool HR.out.symm, rfl⟩
    · have HR := Lib.hid (show rightB n = false by rw [HD.out, decide_eq_false a2, Bool.and_false, Bool.false_and])
      have a2' : 1114112 ≤ n := by omega
      clear a2
      go_enter Tryz.func117, Tryz.ntmps117
      go_wp2_with fail
      go_ret
      exact ⟨ret_bool HR.out.symm, rfl⟩
  · have HR := Lib.hid (show rightB n = false by rw [HD.out, decide_eq_false a1, Bool.false_and, Bool.false_and])
    have a1' : n < 0 := by omega
    clear a1
    go_enter Tryz.func117, Tryz.ntmps117
    go_wp2_with fail
    go_ret
    exact ⟨ret_bool HR.out.symm, rfl⟩

theorem put1 {n : Nat} (h : n < 128) : putN n = [n] := by unfold putN; rw [if_pos h]
theorem put2 {n : Nat} (h : 128 ≤ n) (h' : n < 2048) : putN n = [192 + n / 64, 128 + n % 64] := by unfold putN; rw [if_neg (by omega), if_pos (by omega)]
theorem put3 {n : Nat} (h : 2048 ≤ n) (h' : n < 65536) : putN n = [224 + n / 4096, 128 + n / 64 % 64, 128 + n % 64] := by unfold putN; rw [if_neg (by omega), if_neg (by omega), if_pos (by omega)]
theorem put4 {n : Nat} (h : 65536 ≤ n) : putN n = [240 + n / 262144, 128 + n / 4096 % 64, 128 + n / 64 % 64, 128 + n % 64] := by unfold putN; rw [if_neg (by omega), if_neg (by omega), if_neg (by omega)]
/-- A character's bytes, as bytes. -/
def putL (n : Nat) : List UInt8 := (putN n).map UInt8.ofNat
def PutPost (n : Nat) (w : World) (e : Ending) (w' : World) : Prop :=
  e = .returned (.slice (some ⟨w.heap.size, 0, none⟩) (putL n).length (putL n).length) ∧ Below w.heap.size w w' ∧ BytesAt w' w.heap.size (putL n) ∧ w'.heap.size = w.heap.size + 1

theorem PutPost.mk' {n : Nat} {w : World} {cs : Array Value} {k : Nat} (hcs : cs = ((putN n).map fun x : Nat => Value.int .u8 (x : Int)).toArray) (hn : n < 1114112) (hk : k = (putN n).length) :
    PutPost n w (.returned (.slice (some ⟨w.heap.size, 0, none⟩) k k)) (w.alloc (.cells cs 5)) := by
  have hl : (putL n).length = (putN n).length := by simp [putL]
  have hb : ∀ x, x ∈ putN n → x < 256 := by
    intro x hx
    unfold putN at hx
    repeat' split at hx
    all_goals simp at hx; omega
  refine ⟨by rw [hk, hl], (Below.refl _ _).alloc (Nat.le_refl _) _, ⟨5, [], 0, 0, .inl (Nat.le_refl _), ?_⟩, by simp⟩
  refine (heap_alloc_new w _).trans ?_
  congr 2
  rw [hcs]
  congr 1
  rw [List.append_nil, putL, List.map_map]
  refine List.map_congr_left fun x hx => ?_
  simp only [Function.comp, byteV]
  rw [UInt8.toNat_ofNat_of_lt' (hb x hx)]

set_option maxHeartbeats 1600000 in
set_option maxRecDepth 100000 in
theorem ref_Put (n : Nat) (hn : n < 1114112) (w : World) : Calls Tryz.prog 118 #[.int .i64 (n : Int)] w (PutPost n w) := by
  have hc : n < 128 ∨ (128 ≤ n ∧ n < 2048) ∨ (2048 ≤ n ∧ n < 65536) ∨ 65536 ≤ n := by omega
  have q2 : (0 : Int) ≤ (n : Int) / 64 % 64 := by omega
  have q3 : (n : Int) / 64 % 64 ≤ 63 := by omega
  have q4 : (0 : Int) ≤ (n : Int) % 64 := by omega
  have q5 : (n : Int) % 64 ≤ 63 := by omega
  have q6 : (0 : Int) ≤ (n : Int) / 64 := by omega
  have q7 : (0 : Int) ≤ (n : Int) / 4096 % 64 := by omega
  have q8 : (n : Int) / 4096 % 64 ≤ 63 := by omega
  have q9 : (0 : Int) ≤ (n : Int) / 4096 := by omega
  have qa : (0 : Int) ≤ (n : Int) / 262144 := by omega
  have qb : (n : Int) / 262144 ≤ 4 := by omega
  rcases hc with h | ⟨h, h'⟩ | ⟨h, h'⟩ | h
  · go_enter Tryz.func118, Tryz.ntmps118
    go_wp2_with fail
    go_ret
    exact PutPost.mk' (by rw [put1 h]; rfl) hn (by rw [put1 h]; rfl)
  · go_enter Tryz.func118, Tryz.ntmps118
    go_wp2_with fail
    go_ret
    exact PutPost.mk' (by rw [put2 h h']; simp) hn (by rw [put2 h h']; rfl)
  · have qc : (n : Int) / 4096 ≤ 15 := by omega
    have d1 : decide ((n : Int) < 128) = false := by simp; omega
    have d2 : decide ((n : Int) < 2048) = false := by simp; omega
    have d3 : decide ((n : Int) < 65536) = true := by simp; omega
    go_enter Tryz.func118, Tryz.ntmps118
    go_wp2_with fail
    go_ret
    exact PutPost.mk' (by rw [put3 h h']; simp) hn (by rw [put3 h h']; rfl)
  · have d1 : decide ((n : Int) < 128) = false := by simp; omega
    have d2 : decide ((n : Int) < 2048) = false := by simp; omega
    have d3 : decide ((n : Int) < 65536) = false := by simp; omega
    go_enter Tryz.func118, Tryz.ntmps118
    go_wp2_with fail
    go_ret
    exact PutPost.mk' (by rw [put4 h]; simp) hn (by rw [put4 h]; rfl)

/-- The number that so many bytes of a text would tell. -/
def guessB (s : ByteArray) (i k : Nat) : Int := guessZ k (byteAt s i).toNat (byteAt s (i + 1)).toNat (byteAt s (i + 2)).toNat (byteAt s (i + 3)).toNat

set_option maxHeartbeats 3200000 in
set_option maxRecDepth 100000 in
theorem ref_guess (s : ByteArray) (i k b off cap : Nat) (w : World) (hk1 : 1 ≤ k) (hk4 : k ≤ 4) (hi : i + k ≤ s.size) (hs : s.size ≤ 140737488351232) (hp : BytesIn w b off s) :
    Calls Tryz.prog 116 #[.slice (some ⟨b, off, none⟩) s.size cap, .int .i64 (i : Int), .int .i64 (k : Int)] w fun e w' => e = .returned (.int .i64 (guessB s i k)) ∧ w = w' := by
  have c0 : w.cell? ⟨b, off + i, none⟩ = some (.int .u8 ((byteAt s i).toNat : Int)) := hp i (by omega)
  have c1 : 2 ≤ k → w.cell? ⟨b, off + (i + 1), none⟩ = some (.int .u8 ((byteAt s (i + 1)).toNat : Int)) := fun _ => hp (i + 1) (by omega)
  have c2 : 3 ≤ k → w.cell? ⟨b, off + (i + 2), none⟩ = some (.int .u8 ((byteAt s (i + 2)).toNat : Int)) := fun _ => hp (i + 2) (by omega)
  have c3 : 4 ≤ k → w.cell? ⟨b, off + (i + 3), none⟩ = some (.int .u8 ((byteAt s (i + 3)).toNat : Int)) := fun _ => hp (i + 3) (by omega)
  have b0 := (byteAt s i).toNat_lt
  have b1 := (byteAt s (i + 1)).toNat_lt
  have b2 := (byteAt s (i + 2)).toNat_lt
  have b3 := (byteAt s (i + 3)).toNat_lt
  have hg : guessB s i k = guessZ k (byteAt s i).toNat (byteAt s (i + 1)).toNat (byteAt s (i + 2)).toNat (byteAt s (i + 3)).toNat := rfl
  generalize (byteAt s i).toNat = x0 at *
  generalize (byteAt s (i + 1)).toNat = x1 at *
  generalize (byteAt s (i + 2)).toNat = x2 at *
  generalize (byteAt s (i + 3)).toNat = x3 at *
  have HG := Lib.hid hg
  clear hg hp
  have hc : k = 1 ∨ k = 2 ∨ k = 3 ∨ k = 4 := by omega
  rcases hc with rfl | rfl | rfl | rfl
  · clear c1 c2 c3
    go_enter Tryz.func116, Tryz.ntmps116
    go_wp2_with fail
    refine wp_loop_rounds 1 ?_
    rw [rounds_succ]
    go_wp2_with fail
    go_ret
    exact ⟨ret_i64 (by rw [HG.out, show ((1 : Nat) : Int) = 1 from rfl, guess1]), rfl⟩
  · have c1 := c1 (by omega)
    clear c2 c3
    go_enter Tryz.func116, Tryz.ntmps116
    go_wp2_with fail
    refine wp_loop_rounds 2 ?_
    rw [rounds_succ]
    go_wp2_with fail
    rw [rounds_succ]
    go_wp2_with fail
    go_ret
    exact ⟨ret_i64 (by rw [HG.out, show ((2 : Nat) : Int) = 2 from rfl, guess2]), rfl⟩
  · have c1 := c1 (by omega)
    have c2 := c2 (by omega)
    clear c3
    go_enter Tryz.func116, Tryz.ntmps116
    go_wp2_with fail
    refine wp_loop_rounds 3 ?_
    rw [rounds_succ]
    go_wp2_with fail
    rw [rounds_succ]
    go_wp2_with fail
    rw [rounds_succ]
    go_wp2_with fail
    go_ret
    exact ⟨ret_i64 (by rw [HG.out, show ((3 : Nat) : Int) = 3 from rfl, guess3]), rfl⟩
  · have c1 := c1 (by omega)
    have c2 := c2 (by omega)
    have c3 := c3 (by omega)
    go_enter Tryz.func116, Tryz.ntmps116
    go_wp2_with fail
    refine wp_loop_rounds 4 ?_
    rw [rounds_succ]
    go_wp2_with fail
    rw [rounds_succ]
    go_wp2_with fail
    rw [rounds_succ]
    go_wp2_with fail
    rw [rounds_succ]
    go_wp2_with fail
    go_ret
    exact ⟨ret_i64 (by rw [HG.out, show ((4 : Nat) : Int) = 4 from rfl, guess4]), rfl⟩
end Go.Proofs.YtakcfgmibijdnaaGreatDoor

/- Plain facts: the first size whose character's bytes stand there is the decoder's; where there is none the decoder finds none. -/
namespace Go.Proofs.YtakcfgmibijdnaaGreatDoor

/-- So many bytes are those of the character that they would tell. -/
def hitB (s : ByteArray) (i k : Nat) : Prop := rightB (guessB s i k) = true ∧ (⟨(putL (guessB s i k).toNat).toArray⟩ : ByteArray) = s.extract i (i + k)

theorem putL_nat {n : Nat} (hn : n < 1114112) : (putL n).map UInt8.toNat = putN n := by
  have hb : ∀ x, x ∈ putN n → x < 256 := by
    intro x hx
    unfold putN at hx
    repeat' split at hx
    all_goals simp at hx; omega
  unfold putL
  rw [List.map_map]
  conv => rhs; rw [← List.map_id (putN n)]
  refine List.map_congr_left fun x hx => ?_
  simp only [Function.comp, id]
  exact UInt8.toNat_ofNat_of_lt' (hb x hx)

theorem part_nat (s : ByteArray) (i k : Nat) (hk1 : 1 ≤ k) (hk4 : k ≤ 4) (hik : i + k ≤ s.size) : ((s.data.toList.drop i).take k).map UInt8.toNat = firstN k (byteAt s i).toNat (byteAt s (i + 1)).toNat (byteAt s (i + 2)).toNat (byteAt s (i + 3)).toNat := by
  have hl : s.data.toList.length = s.size := rfl
  have hc : k = 1 ∨ k = 2 ∨ k = 3 ∨ k = 4 := by omega
  apply List.ext_getElem?
  intro j
  unfold firstN byteAt
  simp only [List.getElem?_map, List.getElem?_take, List.getElem?_drop]
  by_cases hj : j < k
  · have hjs : i + j < s.data.toList.length := by omega
    rw [if_pos hj, if_pos hj, List.getElem?_eq_getElem hjs]
    have hj4 : j = 0 ∨ j = 1 ∨ j = 2 ∨ j = 3 := by omega
    rcases hj4 with rfl | rfl | rfl | rfl
    · simp [List.getD, hl, show i < s.size by omega]
    · simp [List.getD, hl, show i + 1 < s.size by omega]
    · simp [List.getD, hl, show i + 2 < s.size by omega]
    · simp [List.getD, hl, show i + 3 < s.size by omega]
  · rw [if_neg hj, if_neg hj]; rfl

theorem extract_list (s : ByteArray) (i k : Nat) : (s.extract i (i + k)).data.toList = (s.data.toList.drop i).take k := by
  rw [Lib.extract_eq, Nat.add_sub_cancel_left]

theorem hitB_iff (s : ByteArray) (i k : Nat) (hk1 : 1 ≤ k) (hk4 : k ≤ 4) (hik : i + k ≤ s.size) :
    hitB s i k ↔ rightZ (guessB s i k) ∧ putN (guessB s i k).toNat = firstN k (byteAt s i).toNat (byteAt s (i + 1)).toNat (byteAt s (i + 2)).toNat (byteAt s (i + 3)).toNat := by
  unfold hitB
  rw [rightB_iff]
  refine and_congr_right fun hr => ?_
  have hr' := hr
  unfold rightZ at hr'
  have hn : (guessB s i k).toNat < 1114112 := by omega
  rw [← putL_nat hn, ← part_nat s i k hk1 hk4 hik, ← extract_list]
  constructor
  · intro h; rw [← h]
  · intro h
    apply ByteArray.ext
    apply Array.ext'
    have hid : ∀ l : List UInt8, (l.map UInt8.toNat).map UInt8.ofNat = l := fun l => by
      rw [List.map_map]
      conv => rhs; rw [← List.map_id l]
      exact List.map_congr_left fun x _ => by simp
    have := congrArg (List.map UInt8.ofNat) h
    rw [hid, hid] at this
    exact this

theorem hitB_dec {s : ByteArray} {i k : Nat} (hk1 : 1 ≤ k) (hk4 : k ≤ 4) (hik : i + k ≤ s.size) (h : hitB s i k) : okB s i = true ∧ decB s i = ((guessB s i k).toNat, k) := by
  obtain ⟨hr, hp⟩ := (hitB_iff s i k hk1 hk4 hik).1 h
  obtain ⟨e, ne⟩ := hit_dec (n := s.size - i) hk1 hk4 (by omega) (byteAt s i).toNat_lt (byteAt s (i + 1)).toNat_lt (byteAt s (i + 2)).toNat_lt (byteAt s (i + 3)).toNat_lt hr hp
  have e' : decB s i = ((guessB s i k).toNat, k) := e
  refine ⟨?_, e'⟩
  unfold okB
  rw [e']
  exact decide_eq_true ne

theorem no_hit {s : ByteArray} {i : Nat} (hi : i < s.size) (h : ∀ m, 1 ≤ m → m ≤ 4 → i + m ≤ s.size → ¬ hitB s i m) : okB s i = false := by
  refine decide_eq_false fun ho => ?_
  obtain ⟨k, hk1, hk4, hkn, hr, hp⟩ := dec_hit (n := s.size - i) (by omega) (byteAt s i).toNat_lt (byteAt s (i + 1)).toNat_lt (byteAt s (i + 2)).toNat_lt (byteAt s (i + 3)).toNat_lt ho
  exact h k hk1 hk4 (by omega) ((hitB_iff s i k hk1 hk4 (by omega)).2 ⟨hr, hp⟩)

/-- The reference's answer: the character, and how many bytes it has; 0, 0: none. -/
def refC (s : ByteArray) (i : Nat) : Nat := if okB s i then (decB s i).1 else 0
def refN (s : ByteArray) (i : Nat) : Nat := if okB s i then (decB s i).2 else 0
theorem ref_yes {s : ByteArray} {i c n : Nat} (h : okB s i = true ∧ decB s i = (c, n)) : c = refC s i ∧ n = refN s i := by
  unfold refC refN
  rw [if_pos h.1, if_pos h.1, h.2]
  exact ⟨rfl, rfl⟩
theorem ref_no {s : ByteArray} {i : Nat} (h : okB s i = false) : 0 = refC s i ∧ 0 = refN s i := by
  unfold refC refN
  rw [h]
  exact ⟨rfl, rfl⟩
theorem ret_next {s : ByteArray} {i c n : Nat} (h : c = refC s i ∧ n = refN s i) :
    Ending.returned (.tuple #[.int .i64 (c : Int), .int .i64 (n : Int)]) = .returned (.tuple #[.int .i64 (refC s i : Int), .int .i64 (refN s i : Int)]) := by rw [h.1, h.2]
theorem ret_next0 {s : ByteArray} {i : Nat} (h : 0 = refC s i ∧ 0 = refN s i) :
    Ending.returned (.tuple #[.int .i64 0, .int .i64 0]) = .returned (.tuple #[.int .i64 (refC s i : Int), .int .i64 (refN s i : Int)]) := by rw [← h.1, ← h.2]; rfl
end Go.Proofs.YtakcfgmibijdnaaGreatDoor

/- Plain facts: characters' bytes and back. -/
namespace Go.Proofs.YtakcfgmibijdnaaGreatDoor

theorem rightC_iff (n : Nat) : rightC n ↔ rightB (n : Int) = true := by
  rw [rightB_iff]; unfold rightC rightZ; omega
theorem putN_len (n : Nat) : 1 ≤ (putN n).length ∧ (putN n).length ≤ 4 := by
  unfold putN
  repeat' split
  all_goals simp
theorem putL_len (n : Nat) : (putL n).length = (putN n).length := by simp [putL]

theorem runeCells_put {n : Nat} (h : rightC n) : Lib.runeCells (n : Int) = (putL n).map byteV := by
  have hb : ∀ x, x ∈ putN n → x < 256 := by
    intro x hx
    unfold rightC at h
    unfold putN at hx
    repeat' split at hx
    all_goals simp at hx; omega
  have e : (putL n).map byteV = (putN n).map fun x : Nat => Value.int .u8 (x : Int) := by
    unfold putL
    rw [List.map_map]
    refine List.map_congr_left fun x hx => ?_
    simp only [Function.comp, byteV]
    rw [UInt8.toNat_ofNat_of_lt' (hb x hx)]
  rw [e]
  unfold rightC at h
  unfold Lib.runeCells
  have hc : n < 128 ∨ (128 ≤ n ∧ n < 2048) ∨ (2048 ≤ n ∧ n < 65536) ∨ 65536 ≤ n := by omega
  rcases hc with h1 | ⟨h1, h2⟩ | ⟨h1, h2⟩ | h1
  · rw [Lib.encodeRuneZ_one (by omega) (by omega), put1 h1]; rfl
  · rw [Lib.encodeRuneZ_two (by omega) (by omega), put2 h1 h2]; simp
  · rw [Lib.encodeRuneZ_three (by omega), put3 h1 h2]; simp
  · rw [Lib.encodeRuneZ_four (by omega) (by omega), put4 h1]; simp

theorem guess_put {n b0 b1 b2 b3 : Nat} (h : rightC n) (hf : firstN (putN n).length b0 b1 b2 b3 = putN n) : guessZ (putN n).length b0 b1 b2 b3 = n := by
  unfold rightC at h
  have hc : n < 128 ∨ (128 ≤ n ∧ n < 2048) ∨ (2048 ≤ n ∧ n < 65536) ∨ 65536 ≤ n := by omega
  rcases hc with h1 | ⟨h1, h2⟩ | ⟨h1, h2⟩ | h1
  · rw [put1 h1] at hf ⊢
    simp [firstN] at hf
    rw [show (([n] : List Nat).length : Int) = 1 from rfl, guess1]
    omega
  · rw [put2 h1 h2] at hf ⊢
    simp [firstN] at hf
    rw [show (([192 + n / 64, 128 + n % 64] : List Nat).length : Int) = 2 from rfl, guess2]
    omega
  · rw [put3 h1 h2] at hf ⊢
    simp [firstN] at hf
    rw [show (([224 + n / 4096, 128 + n / 64 % 64, 128 + n % 64] : List Nat).length : Int) = 3 from rfl, guess3]
    omega
  · rw [put4 h1] at hf ⊢
    simp [firstN] at hf
    rw [show (([240 + n / 262144, 128 + n / 4096 % 64, 128 + n / 64 % 64, 128 + n % 64] : List Nat).length : Int) = 4 from rfl, guess4]
    omega

theorem rightC_lt {n : Nat} (h : rightC n) : n < 1114112 := by unfold rightC at h; omega

/-- A character's bytes at a place are read as it. -/
theorem put_dec {s : ByteArray} {i n : Nat} (h : rightC n) (hi : i + (putL n).length ≤ s.size) (hb : (s.data.toList.drop i).take (putL n).length = putL n) : decB s i = (n, (putL n).length) ∧ okB s i = true := by
  have hl := putN_len n
  rw [putL_len] at hi hb ⊢
  have hf : firstN (putN n).length (byteAt s i).toNat (byteAt s (i + 1)).toNat (byteAt s (i + 2)).toNat (byteAt s (i + 3)).toNat = putN n := by
    rw [← part_nat s i _ hl.1 hl.2 hi, hb, putL_nat (rightC_lt h)]
  have hg := guess_put h hf
  have hh : hitB s i (putN n).length := (hitB_iff s i _ hl.1 hl.2 hi).2 ⟨by
    show rightZ (guessZ _ _ _ _ _)
    rw [hg, ← rightB_iff]; exact (rightC_iff n).1 h, by
    show putN (guessZ _ _ _ _ _).toNat = _
    rw [hg, hf, Int.toNat_natCast]⟩
  have hd := hitB_dec hl.1 hl.2 hi hh
  refine ⟨?_, hd.1⟩
  rw [hd.2]
  show ((guessZ _ _ _ _ _).toNat, _) = _
  rw [hg, Int.toNat_natCast]

/-- What is read as a character is its bytes. -/
theorem dec_put {s : ByteArray} {i : Nat} (hi : i < s.size) (ho : okB s i = true) : putL (decB s i).1 = (s.data.toList.drop i).take (decB s i).2 := by
  have ho' : decB s i ≠ (65533, 1) := of_decide_eq_true ho
  obtain ⟨k, hk1, hk4, hkn, hr, hp⟩ := dec_hit (n := s.size - i) (by omega) (byteAt s i).toNat_lt (byteAt s (i + 1)).toNat_lt (byteAt s (i + 2)).toNat_lt (byteAt s (i + 3)).toNat_lt ho'
  have hh : hitB s i k := (hitB_iff s i k hk1 hk4 (by omega)).2 ⟨hr, hp⟩
  have hd := hitB_dec hk1 hk4 (by omega) hh
  rw [hd.2]
  have := congrArg (fun b : ByteArray => b.data.toList) hh.2
  simp only [extract_list] at this
  exact this

/-- The bytes of characters. -/
def putAll (l : List Nat) : List UInt8 := l.flatMap putL
theorem putAll_cons (c : Nat) (l : List Nat) : putAll (c :: l) = putL c ++ putAll l := rfl
theorem putAll_app (a b : List Nat) : putAll (a ++ b) = putAll a ++ putAll b := by unfold putAll; exact List.flatMap_append
theorem putAll_one (c : Nat) : putAll [c] = putL c := by unfold putAll; simp
theorem putAll_len (l : List Nat) : l.length ≤ (putAll l).length ∧ (putAll l).length ≤ 4 * l.length := by
  induction l with
  | nil => simp [putAll]
  | cons c l ih =>
    have := putN_len c
    rw [putAll_cons, List.length_append, putL_len, List.length_cons]; omega

theorem chrs_put_at : ∀ (post pre : List Nat), (∀ c ∈ post, rightC c) → Reach ⟨(putAll (pre ++ post)).toArray⟩ pre (putAll pre).length → chrs ⟨(putAll (pre ++ post)).toArray⟩ = (pre ++ post, none) := by
  intro post
  induction post with
  | nil =>
    intro pre _ hr
    rw [List.append_nil] at hr ⊢
    exact hr.done (by show ¬ _ < (putAll pre).toArray.size; simp)
  | cons c post ih =>
    intro pre hc hr
    have hsz : (⟨(putAll (pre ++ c :: post)).toArray⟩ : ByteArray).size = (putAll pre).length + ((putL c).length + (putAll post).length) := by
      show (putAll (pre ++ c :: post)).toArray.size = _
      rw [putAll_app, putAll_cons]; simp
    have hl := putN_len c
    have hd := put_dec (s := ⟨(putAll (pre ++ c :: post)).toArray⟩) (i := (putAll pre).length) (hc c (by simp)) (by rw [hsz]; omega) (by
      show (((putAll (pre ++ c :: post)).toArray.toList).drop _).take _ = _
      rw [putAll_app, putAll_cons]
      simp)
    have hs := hr.step (by rw [hsz, putL_len]; omega) hd.2
    rw [hd.1] at hs
    have e : (putAll (pre ++ [c])).length = (putAll pre).length + (putL c).length := by rw [putAll_app, putAll_one, List.length_append]
    have := ih (pre ++ [c]) (fun d hd' => hc d (by simp [hd'])) (by rw [e]; simpa using hs)
    simpa using this

theorem chrs_put (l : List Nat) (h : ∀ c ∈ l, rightC c) : chrs ⟨(putAll l).toArray⟩ = (l, none) := by
  have := chrs_put_at l [] h (Reach.zero _)
  simpa using this

theorem put_from (s : ByteArray) : ∀ (f i : Nat), s.size - i ≤ f → i ≤ s.size → (chrsFrom s f i).2 = none → putAll (chrsFrom s f i).1 = s.data.toList.drop i := by
  intro f
  induction f with
  | zero =>
    intro i hf hi _
    have hl : s.data.toList.length = s.size := rfl
    rw [List.drop_eq_nil_of_le (by omega)]; rfl
  | succ f ih =>
    intro i hf hi hn
    have hl : s.data.toList.length = s.size := rfl
    unfold chrsFrom at hn ⊢
    by_cases hlt : i < s.size
    · rw [if_pos hlt] at hn ⊢
      by_cases ho : okB s i = true
      · rw [if_pos ho] at hn ⊢
        have hd := decB_bounds s i hlt
        rw [putAll_cons, ih _ (by omega) (by omega) hn, dec_put hlt ho, ← List.drop_drop, List.take_append_drop]
      · rw [if_neg ho] at hn
        simp at hn
    · rw [if_neg hlt, List.drop_eq_nil_of_le (by omega)]; rfl
theorem put_chrs (s : ByteArray) (h : (chrs s).2 = none) : putAll (chrs s).1 = s.data.toList := put_from s s.size 0 (by omega) (by omega) h
theorem right_from (s : ByteArray) : ∀ (f i : Nat), ∀ c ∈ (chrsFrom s f i).1, rightC c := by
  intro f
  induction f with
  | zero => intro i c h; simp [chrsFrom] at h
  | succ f ih =>
    intro i c h
    unfold chrsFrom at h
    split at h
    · split at h
      · rcases List.mem_cons.1 h with rfl | h
        · exact (decB_bounds s i (by assumption)).2.2.2
        · exact ih _ c h
      · simp at h
    · simp at h
theorem right_chrs (s : ByteArray) : ∀ c ∈ (chrs s).1, rightC c := right_from s s.size 0
end Go.Proofs.YtakcfgmibijdnaaGreatDoor
