/- utf.Next: the character at a place. -/
import Derived.Test.YtbonnmkkacplgaaGreatDoorLabelNamesM3
import Derived.Test.YtbonnmkkacplgaaGreatDoorLabelNamesM1
import Derived.Test.YtbonnmkkacplgaaGreatDoorShelf
import Derived.Test.YtbonnmkkacplgaaGreatDoorLabelNamesM2

namespace Go.Proofs.YtbonnmkkacplgaaGreatDoor
open Go.RowKit

theorem utf8_DecodeRune (s : ByteArray) (i b off cap : Nat) (w : World) (hU : Utf8Laid w) (hi : i < s.size) (hp : BytesIn w b off s) :
    Calls Tryz.prog 86 #[.slice (some ⟨b, off + i, none⟩) (s.size - i) cap] w fun e w' => e = .returned (.tuple #[.int .i32 ((decB s i).1 : Int), .int .i64 ((decB s i).2 : Int)]) ∧ Below w.heap.size w w' := by
  have hsz := extract_tail_size s i (by omega)
  have h := Any7.utf8_DecodeRune Tryz.lays7n32 (s.extract i s.size) b (off + i) cap w hU (fun j hj => by
    rw [byteAt_get, Nat.add_assoc, byteAt_extract s i j (by omega)]
    exact hp (i + j) (by omega))
  rw [decodeGo_extract s i hi, hsz] at h
  exact h

def NextPost (s : ByteArray) (i : Nat) (w : World) (e : Ending) (w' : World) : Prop :=
  Below w.heap.size w w' ∧ ((okB s i = true ∧ e = .returned (.tuple #[.int .i64 ((decB s i).1 : Int), .int .i64 ((decB s i).2 : Int), .nilIface])) ∨
    (okB s i = false ∧ ∃ v, e = .returned (.tuple #[.int .i64 0, .int .i64 0, v]) ∧ IsFault w' v 12 i))

set_option maxHeartbeats 1600000 in
set_option maxRecDepth 100000 in
theorem utf_Next (s : ByteArray) (i b off cap : Nat) (w : World) (hU : Utf8Laid w) (hi : i < s.size) (hc : s.size ≤ cap) (_ : cap ≤ 9223372036854775807) (hp : BytesIn w b off s) :
    Calls Tryz.prog 56 #[.slice (some ⟨b, off, none⟩) s.size cap, .int .i64 (i : Int)] w (NextPost s i w) := by
  obtain ⟨hd1, hd2, hd3, hd4⟩ := decB_bounds s i hi
  have hd5 : (decB s i).1 ≤ 1114111 := by unfold rightC at hd4; omega
  have hok : okB s i = decide (decB s i ≠ (65533, 1)) := rfl
  have hD := Lib.hid (show decB s i = ((decB s i).1, (decB s i).2) from rfl)
  generalize hc1 : (decB s i).1 = c at *
  generalize hn1 : (decB s i).2 = n at *
  have HC := Lib.hid hc1
  have HN := Lib.hid hn1
  have HOK := Lib.hid hok
  clear hc1 hn1 hok hd4
  have hnb : (i : Int) ≤ (s.size : Int) := by omega
  go_enter Tryz.func56, Tryz.ntmps56
  go_wp2_with fail
  refine (utf8_DecodeRune s i b off _ _ hU hi hp).mono ?_
  rintro e w1 ⟨rfl, hb1⟩
  rw [HC.out, HN.out]
  by_cases hc0 : c = 65533
  · by_cases hn0 : n = 1
    · subst hc0 hn0
      go_wp2_with fail
      refine (api_Fail' _ _ _).mono ?_
      rintro e w3 ⟨v, rfl, hv, hb3⟩
      go_wp2_with fail
      go_ret3
      exact ⟨Bt hb1 hb3, .inr ⟨by rw [HOK.out, hD.out]; rfl, v, rfl, hv⟩⟩
    · subst hc0
      have e2 : ((n : Int) == 1) = false := by rw [beq_eq_false_iff_ne]; omega
      go_wp2_with fail
      go_ret3
      exact ⟨hb1, .inl ⟨by rw [HOK.out, hD.out]; simp [hn0], by rw [HC.out, HN.out]; rfl⟩⟩
  · have e1 : ((c : Int) == 65533) = false := by rw [beq_eq_false_iff_ne]; omega
    go_wp2_with fail
    go_ret3
    exact ⟨hb1, .inl ⟨by rw [HOK.out, hD.out]; simp [hc0], by rw [HC.out, HN.out]; rfl⟩⟩

set_option maxHeartbeats 1600000 in
theorem utf_Next_arg (a : Option Addr) (len cap : Nat) (i : Int) (w : World) (hi : i < 0 ∨ (len : Int) < i) :
    Calls Tryz.prog 56 #[.slice a len cap, .int .i64 i] w fun e w' => ∃ v, e = .returned (.tuple #[.int .i64 0, .int .i64 0, v]) ∧ IsFault w' v 1 i ∧ Below w.heap.size w w' := by
  rcases hi with hi | hi
  all_goals
    go_enter Tryz.func56, Tryz.ntmps56
    go_wp2_with fail
    refine (api_Fail' _ _ _).mono ?_
    rintro e w3 ⟨v, rfl, hv, hb3⟩
    go_wp2_with fail
    go_ret3
    exact ⟨v, rfl, hv, hb3⟩

theorem utf_Next_end (a : Option Addr) (len cap : Nat) (w : World) (_ : len ≤ 9223372036854775807) :
    Calls Tryz.prog 56 #[.slice a len cap, .int .i64 (len : Int)] w fun e w' => ∃ v, e = .returned (.tuple #[.int .i64 0, .int .i64 0, v]) ∧ IsFault w' v 10 len ∧ Below w.heap.size w w' := by
  go_enter Tryz.func56, Tryz.ntmps56
  go_wp2_with fail
  refine (api_Fail' _ _ _).mono ?_
  rintro e w3 ⟨v, rfl, hv, hb3⟩
  go_wp2_with fail
  go_ret3
  exact ⟨v, rfl, hv, hb3⟩
end Go.Proofs.YtbonnmkkacplgaaGreatDoor

/- The reference's Half, Right, Put, guess, of chapter 01. -/
namespace Go.Proofs.YtbonnmkkacplgaaGreatDoor
open Go.RowKit

def halfZ (n : Int) : Int := if 55296 ≤ n ∧ n < 56320 then 1 else if 56320 ≤ n ∧ n < 57344 then 2 else 0
def rightB (n : Int) : Bool := decide (0 ≤ n) && decide (n < 1114112) && decide (halfZ n = 0)
theorem rightB_iff (n : Int) : rightB n = true ↔ rightZ n := by
  unfold rightB rightZ halfZ
  simp only [Bool.and_eq_true, decide_eq_true_eq]
  repeat' split
  all_goals omega

set_option maxHeartbeats 800000 in
theorem ref_Half (n : Int) (w : World) : Calls Tryz.prog 49 #[.int .i64 n] w fun e w' => e = .returned (.int .i64 (halfZ n)) ∧ w = w' := by
  have hc : n < 55296 ∨ (55296 ≤ n ∧ n < 56320) ∨ (56320 ≤ n ∧ n < 57344) ∨ 57344 ≤ n := by omega
  have h0 : n < 55296 ∨ 57344 ≤ n → halfZ n = 0 := by intro h; unfold halfZ; rw [if_neg (by omega), if_neg (by omega)]
  have h1 : 55296 ≤ n ∧ n < 56320 → halfZ n = 1 := by intro h; unfold halfZ; rw [if_pos h]
  have h2 : 56320 ≤ n ∧ n < 57344 → halfZ n = 2 := by intro h; unfold halfZ; rw [if_neg (by omega), if_pos h]
  have H0 := Lib.hid h0
  have H1 := Lib.hid h1
  have H2 := Lib.hid h2
  clear h0 h1 h2
  rcases hc with h | ⟨h, h'⟩ | ⟨h, h'⟩ | h
  all_goals
    go_enter Tryz.func49, Tryz.ntmps49
    go_wp2
    go_ret
  · exact ⟨ret_i64 (H0.out (by omega)).symm, rfl⟩
  · exact ⟨ret_i64 (H1.out (by omega)).symm, rfl⟩
  · exact ⟨ret_i64 (H2.out (by omega)).symm, rfl⟩
  · exact ⟨ret_i64 (H0.out (by omega)).symm, rfl⟩

set_option maxHeartbeats 800000 in
theorem ref_Right (n : Int) (w : World) : Calls Tryz.prog 18 #[.int .i64 n] w fun e w' => e = .returned (.bool (rightB n)) ∧ w = w' := by
  have hd : rightB n = (decide (0 ≤ n) && decide (n < 1114112) && decide (halfZ n = 0)) := rfl
  have HD := Lib.hid hd
  clear hd
  by_cases a1 : 0 ≤ n
  · by_cases a2 : n < 1114112
    · by_cases a3 : halfZ n = 0
      · have e1 : (halfZ n == 0) = true := by rw [beq_iff_eq]; exact a3
        have HR := Lib.hid (show rightB n = true by rw [HD.out, decide_eq_true a1, decide_eq_true a2, decide_eq_true a3]; rfl)
        clear a3
        go_enter Tryz.func18, Tryz.ntmps18
        go_wp2_with fail
        refine (ref_Half n _).mono ?_
        rintro e w1 ⟨rfl, rfl⟩
        go_wp2_with fail
        go_ret
        exact ⟨ret_bool HR.out.symm, rfl⟩
      · have e1 : (halfZ n == 0) = false := by rw [beq_eq_false_iff_ne]; exact a3
        have HR := Lib.hid (show rightB n = false by rw [HD.out, decide_eq_false a3, Bool.and_false])
        clear a3
        go_enter Tryz.func18, Tryz.ntmps18
        go_wp2_with fail
        refine (ref_Half n _).mono ?_
        rintro e w1 ⟨rfl, rfl⟩
        go_wp2_with fail
        go_ret
        exact ⟨ret_bool HR.out.symm, rfl⟩
    · have HR := Lib.hid (show rightB n = false by rw [HD.out, decide_eq_false a2, Bool.and_false, Bool.false_and])
      have a2' : 1114112 ≤ n := by omega
      clear a2
      go_enter Tryz.func18, Tryz.ntmps18
      go_wp2_with fail
      go_ret
      exact ⟨ret_bool HR.out.symm, rfl⟩
  · have HR := Lib.hid (show rightB n = false by rw [HD.out, decide_eq_false a1, Bool.false_and, Bool.false_and])
    have a1' : n < 0 := by omega
    clear a1
    go_enter Tryz.func18, Tryz.ntmps18
    go_wp2_with fail
    go_ret
    exact ⟨ret_bool HR.out.symm, rfl⟩

theorem put1 {n : Nat} (h : n < 128) : putN n = [n] := by unfold putN; rw [if_pos h]
theorem put2 {n : Nat} (h : 128 ≤ n) (h' : n < 2048) : putN n = [192 + n / 64, 128 + n % 64] := by unfold putN; rw [if_neg (by omega), if_pos (by omega)]
theorem put3 {n : Nat} (h : 2048 ≤ n) (h' : n < 65536) : putN n = [224 + n / 4096, 128 + n / 64 % 64, 128 + n % 64] := by unfold putN; rw [if_neg (by omega), if_neg (by omega), if_pos (by omega)]
theorem put4 {n : Nat} (h : 65536 ≤ n) : putN n = [240 + n / 262144, 128 + n / 4096 % 64, 128 + n / 64 % 64, 128 + n % 64] := by unfold putN; rw [if_neg (by omega), if_neg (by omega), if_neg (by omega)]
/-- A character's bytes, as bytes. -/
def putL (n : Nat) : List UInt8 := (putN n).map UInt8.ofNat
def PutPost (n : Nat) (w : World) (e : Ending) (w' : World) : Prop :=
  e = .returned (.slice (some ⟨w.heap.size, 0, none⟩) (putL n).length (putL n).length) ∧ Below w.heap.size w w' ∧ BytesAt w' w.heap.size (putL n) ∧ w'.heap.size = w.heap.size + 1

theorem PutPost.mk' {n : Nat} {w : World} {cs : Array Value} {k : Nat} (hcs : cs = ((putN n).map fun x : Nat => Value.int .u8 (x : Int)).toArray) (hn : n < 1114112) (hk : k = (putN n).length) :
    PutPost n w (.returned (.slice (some ⟨w.heap.size, 0, none⟩) k k)) (w.alloc (.cells cs 5)) := by
  have hl : (putL n).length = (putN n).length := by simp [putL]
  have hb : ∀ x, x ∈ putN n → x < 256 := by
    intro x hx
    unfold putN at hx
    repeat' split at hx
    all_goals simp at hx; omega
  refine ⟨by rw [hk, hl], (Below.refl _ _).alloc (Nat.le_refl _) _, ⟨5, [], 0, 0, .inl (Nat.le_refl _), ?_⟩, by simp⟩
  refine (heap_alloc_new w _).trans ?_
  congr 2
  rw [hcs]
  congr 1
  rw [List.append_nil, putL, List.map_map]
  refine List.map_congr_left fun x hx => ?_
  simp only [Function.comp, byteV]
  rw [UInt8.toNat_ofNat_of_lt' (hb x hx)]

set_option maxHeartbeats 1600000 in
set_option maxRecDepth 100000 in
theorem ref_Put (n : Nat) (hn : n < 1114112) (w : World) : Calls Tryz.prog 19 #[.int .i64 (n : Int)] w (PutPost n w) := by
  have hc : n < 128 ∨ (128 ≤ n ∧ n < 2048) ∨ (2048 ≤ n ∧ n < 65536) ∨ 65536 ≤ n := by omega
  have q2 : (0 : Int) ≤ (n : Int) / 64 % 64 := by omega
  have q3 : (n : Int) / 64 % 64 ≤ 63 := by omega
  have q4 : (0 : Int) ≤ (n : Int) % 64 := by omega
  have q5 : (n : Int) % 64 ≤ 63 := by omega
  have q6 : (0 : Int) ≤ (n : Int) / 64 := by omega
  have q7 : (0 : Int) ≤ (n : Int) / 4096 % 64 := by omega
  have q8 : (n : Int) / 4096 % 64 ≤ 63 := by omega
  have q9 : (0 : Int) ≤ (n : Int) / 4096 := by omega
  have qa : (0 : Int) ≤ (n : Int) / 262144 := by omega
  have qb : (n : Int) / 262144 ≤ 4 := by omega
  rcases hc with h | ⟨h, h'⟩ | ⟨h, h'⟩ | h
  · go_enter Tryz.func19, Tryz.ntmps19
    go_wp2_with fail
    go_ret
    exact PutPost.mk' (by rw [put1 h]; rfl) hn (by rw [put1 h]; rfl)
  · go_enter Tryz.func19, Tryz.ntmps19
    go_wp2_with fail
    go_ret
    exact PutPost.mk' (by rw [put2 h h']; simp) hn (by rw [put2 h h']; rfl)
  · have qc : (n : Int) / 4096 ≤ 15 := by omega
    have d1 : decide ((n : Int) < 128) = false := by simp; omega
    have d2 : decide ((n : Int) < 2048) = false := by simp; omega
    have d3 : decide ((n : Int) < 65536) = true := by simp; omega
    go_enter Tryz.func19, Tryz.ntmps19
    go_wp2_with fail
    go_ret
    exact PutPost.mk' (by rw [put3 h h']; simp) hn (by rw [put3 h h']; rfl)
  · have d1 : decide ((n : Int) < 128) = false := by simp; omega
    have d2 : decide ((n : Int) < 2048) = false := by simp; omega
    have d3 : decide ((n : Int) < 65536) = false := by simp; omega
    go_enter Tryz.func19, Tryz.ntmps19
    go_wp2_with fail
    go_ret
    exact PutPost.mk' (by rw [put4 h]; simp) hn (by rw [put4 h]; rfl)

/-- The number that so many bytes of a text would tell. -/
def guessB (s : ByteArray) (i k : Nat) : Int := guessZ k (byteAt s i).toNat (byteAt s (i + 1)).toNat (byteAt s (i + 2)).toNat (byteAt s (i + 3)).toNat

set_option maxHeartbeats 3200000 in
set_option maxRecDepth 100000 in
theorem ref_guess (s : ByteArray) (i k b off cap : Nat) (w : World) (hk1 : 1 ≤ k) (hk4 : k ≤ 4) (hi : i + k ≤ s.size) (hs : s.size ≤ 140737488351232) (hp : BytesIn w b off s) :
    Calls Tryz.prog 95 #[.slice (some ⟨b, off, none⟩) s.size cap, .int .i64 (i : Int), .int .i64 (k : Int)] w fun e w' => e = .returned (.int .i64 (guessB s i k)) ∧ w = w' := by
  have c0 : w.cell? ⟨b, off + i, none⟩ = some (.int .u8 ((byteAt s i).toNat : Int)) := hp i (by omega)
  have c1 : 2 ≤ k → w.cell? ⟨b, off + (i + 1), none⟩ = some (.int .u8 ((byteAt s (i + 1)).toNat : Int)) := fun _ => hp (i + 1) (by omega)
  have c2 : 3 ≤ k → w.cell? ⟨b, off + (i + 2), none⟩ = some (.int .u8 ((byteAt s (i + 2)).toNat : Int)) := fun _ => hp (i + 2) (by omega)
  have c3 : 4 ≤ k → w.cell? ⟨b, off + (i + 3), none⟩ = some (.int .u8 ((byteAt s (i + 3)).toNat : Int)) := fun _ => hp (i + 3) (by omega)
  have b0 := (byteAt s i).toNat_lt
  have b1 := (byteAt s (i + 1)).toNat_lt
  have b2 := (byteAt s (i + 2)).toNat_lt
  have b3 := (byteAt s (i + 3)).toNat_lt
  have hg : guessB s i k = guessZ k (byteAt s i).toNat (byteAt s (i + 1)).toNat (byteAt s (i + 2)).toNat (byteAt s (i + 3)).toNat := rfl
  generalize (byteAt s i).toNat = x0 at *
  generalize (byteAt s (i + 1)).toNat = x1 at *
  generalize (byteAt s (i + 2)).toNat = x2 at *
  generalize (byteAt s (i + 3)).toNat = x3 at *
  have HG := Lib.hid hg
  clear hg hp
  have hc : k = 1 ∨ k = 2 ∨ k = 3 ∨ k = 4 := by omega
  rcases hc with rfl | rfl | rfl | rfl
  · clear c1 c2 c3
    go_enter Tryz.func95, Tryz.ntmps95
    go_wp2_with fail
    refine wp_loop_rounds 1 ?_
    rw [rounds_succ]
    go_wp2_with fail
    go_ret
    exact ⟨ret_i64 (by rw [HG.out, show ((1 : Nat) : Int) = 1 from rfl, guess1]), rfl⟩
  · have c1 := c1 (by omega)
    clear c2 c3
    go_enter Tryz.func95, Tryz.ntmps95
    go_wp2_with fail
    refine wp_loop_rounds 2 ?_
    rw [rounds_succ]
    go_wp2_with fail
    rw [rounds_succ]
    go_wp2_with fail
    go_ret
    exact ⟨ret_i64 (by rw [HG.out, show ((2 : Nat) : Int) = 2 from rfl, guess2]), rfl⟩
  · have c1 := c1 (by omega)
    have c2 := c2 (by omega)
    clear c3
    go_enter Tryz.func95, Tryz.ntmps95
    go_wp2_with fail
    refine wp_loop_rounds 3 ?_
    rw [rounds_succ]
    go_wp2_with fail
    rw [rounds_succ]
    go_wp2_with fail
    rw [rounds_succ]
    go_wp2_with fail
    go_ret
    exact ⟨ret_i64 (by rw [HG.out, show ((3 : Nat) : Int) = 3 from rfl, guess3]), rfl⟩
  · have c1 := c1 (by omega)
    have c2 := c2 (by omega)
    have c3 := c3 (by omega)
    go_enter Tryz.func95, Tryz.ntmps95
    go_wp2_with fail
    refine wp_loop_rounds 4 ?_
    rw [rounds_succ]
    go_wp2_with fail
    rw [rounds_succ]
    go_wp2_with fail
    rw [rounds_succ]
    go_wp2_with fail
    rw [rounds_succ]
    go_wp2_with fail
    go_ret
    exact ⟨ret_i64 (by rw [HG.out, show ((4 : Nat) : Int) = 4 from rfl, guess4]), rfl⟩
end Go.Proofs.YtbonnmkkacplgaaGreatDoor

/- Reading letters and digits as characters, in plain words. -/
namespace Go.Proofs.YtbonnmkkacplgaaGreatDoor
open Go.RowKit

def valN (c : UInt8) : Option Nat :=
  if 65 ≤ c.toNat ∧ c.toNat ≤ 90 then some (c.toNat - 65) else if 97 ≤ c.toNat ∧ c.toNat ≤ 122 then some (c.toNat - 97) else if 48 ≤ c.toNat ∧ c.toNat ≤ 57 then some (c.toNat - 48 + 26) else none
theorem valN_lt {c : UInt8} {d : Nat} (h : valN c = some d) : d < 36 := by
  unfold valN at h
  split at h
  · cases h; omega
  · split at h
    · cases h; omega
    · split at h
      · cases h; omega
      · cases h
/-- A number that is read from a place on. -/
def rdF (s : ByteArray) (b : Nat) : Nat → Nat → Nat → Nat → Nat → Except (Nat × Nat) (Nat × Nat)
  | 0, a, _, _, _ => .error (10, a)
  | f + 1, a, n, w, k =>
    if s.size ≤ a then .error (10, a) else
    match valN (byteAt s a) with
    | none => .error (11, a)
    | some d =>
      if 2147483647 < n + d * w then .error (16, a) else
      if d < thrN k b then .ok (n + d * w, a + 1) else
      if 2147483647 < w * (36 - thrN k b) then .error (16, a) else rdF s b f (a + 1) (n + d * w) (w * (36 - thrN k b)) (k + 36)
section
variable {s : ByteArray} {b f a n w k d : Nat}
theorem rd_end (h : s.size ≤ a) : rdF s b f a n w k = .error (10, a) := by
  cases f with
  | zero => rfl
  | succ f => rw [rdF, if_pos h]
theorem rd_form (h : a < s.size) (h2 : valN (byteAt s a) = none) : rdF s b (f + 1) a n w k = .error (11, a) := by
  rw [rdF, if_neg (by omega), h2]
theorem rd_far (h : a < s.size) (h2 : valN (byteAt s a) = some d) (h3 : 2147483647 < n + d * w) : rdF s b (f + 1) a n w k = .error (16, a) := by
  rw [rdF, if_neg (by omega), h2]; dsimp only; rw [if_pos h3]
theorem rd_ok (h : a < s.size) (h2 : valN (byteAt s a) = some d) (h3 : ¬ 2147483647 < n + d * w) (h4 : d < thrN k b) : rdF s b (f + 1) a n w k = .ok (n + d * w, a + 1) := by
  rw [rdF, if_neg (by omega), h2]; dsimp only; rw [if_neg h3, if_pos h4]
theorem rd_wide (h : a < s.size) (h2 : valN (byteAt s a) = some d) (h3 : ¬ 2147483647 < n + d * w) (h4 : ¬ d < thrN k b) (h5 : 2147483647 < w * (36 - thrN k b)) : rdF s b (f + 1) a n w k = .error (16, a) := by
  rw [rdF, if_neg (by omega), h2]; dsimp only; rw [if_neg h3, if_neg h4, if_pos h5]
theorem rd_next (h : a < s.size) (h2 : valN (byteAt s a) = some d) (h3 : ¬ 2147483647 < n + d * w) (h4 : ¬ d < thrN k b) (h5 : ¬ 2147483647 < w * (36 - thrN k b)) : rdF s b (f + 1) a n w k = rdF s b f (a + 1) (n + d * w) (w * (36 - thrN k b)) (k + 36) := by
  rw [rdF, if_neg (by omega), h2]; dsimp only; rw [if_neg h3, if_neg h4, if_neg h5]
end
def rdN (s : ByteArray) (a b : Nat) : Except (Nat × Nat) (Nat × Nat) := rdF s b (s.size - a) a 0 1 36
theorem rdF_bounds (s : ByteArray) (b : Nat) : ∀ (f a n w k i t : Nat), rdF s b f a n w k = .ok (i, t) → a < t ∧ t ≤ s.size ∧ i ≤ 2147483647 := by
  intro f
  induction f with
  | zero => intro a n w k i t h; cases h
  | succ f ih =>
    intro a n w k i t h
    by_cases h1 : s.size ≤ a
    · rw [rd_end h1] at h; cases h
    cases h2 : valN (byteAt s a) with
    | none => rw [rd_form (by omega) h2] at h; cases h
    | some d =>
      by_cases h3 : 2147483647 < n + d * w
      · rw [rd_far (by omega) h2 h3] at h; cases h
      by_cases h4 : d < thrN k b
      · rw [rd_ok (by omega) h2 h3 h4] at h; cases h; omega
      by_cases h5 : 2147483647 < w * (36 - thrN k b)
      · rw [rd_wide (by omega) h2 h3 h4 h5] at h; cases h
      rw [rd_next (by omega) h2 h3 h4 h5] at h
      have := ih _ _ _ _ _ _ h
      omega
theorem rdF_kind (s : ByteArray) (b : Nat) : ∀ (f a n w k e j : Nat), rdF s b f a n w k = .error (e, j) → e ≠ 0 := by
  intro f
  induction f with
  | zero => intro a n w k e j h; cases h; decide
  | succ f ih =>
    intro a n w k e j h
    by_cases h1 : s.size ≤ a
    · rw [rd_end h1] at h; cases h; decide
    cases h2 : valN (byteAt s a) with
    | none => rw [rd_form (by omega) h2] at h; cases h; decide
    | some d =>
      by_cases h3 : 2147483647 < n + d * w
      · rw [rd_far (by omega) h2 h3] at h; cases h; decide
      by_cases h4 : d < thrN k b
      · rw [rd_ok (by omega) h2 h3 h4] at h; cases h
      by_cases h5 : 2147483647 < w * (36 - thrN k b)
      · rw [rd_wide (by omega) h2 h3 h4 h5] at h; cases h; decide
      rw [rd_next (by omega) h2 h3 h4 h5] at h
      exact ih _ _ _ _ _ _ h

structure DSt where
  a : Nat
  n : Nat
  place : Nat
  bias : Nat
  first : Bool
  out : List Nat
def decF (s : ByteArray) : Nat → DSt → Except (Nat × Nat) (List Nat)
  | 0, u => .ok u.out
  | f + 1, u =>
    if s.size ≤ u.a then .ok u.out else
    match rdN s u.a u.bias with
    | .error e => .error e
    | .ok (i, t) =>
      let p := u.place + i
      let h := u.out.length + 1
      let n := u.n + p / h
      if rightB (n : Int) = false then .error (16, t - 1) else if 256 < h then .error (15, t - 1) else
      decF s f ⟨t, n, p % h + 1, adaptN i h u.first, false, insL u.out (p % h) n⟩
section
variable {s : ByteArray} {f i t : Nat} {u : DSt}
theorem dec_end (h : s.size ≤ u.a) : decF s f u = .ok u.out := by
  cases f with
  | zero => rfl
  | succ f => rw [decF, if_pos h]
theorem dec_err {e : Nat × Nat} (h : u.a < s.size) (h2 : rdN s u.a u.bias = .error e) : decF s (f + 1) u = .error e := by
  rw [decF, if_neg (by omega), h2]
theorem dec_bad (h : u.a < s.size) (h2 : rdN s u.a u.bias = .ok (i, t)) (h3 : rightB ((u.n + (u.place + i) / (u.out.length + 1) : Nat) : Int) = false) : decF s (f + 1) u = .error (16, t - 1) := by
  rw [decF, if_neg (by omega), h2]; dsimp only; rw [if_pos h3]
theorem dec_many (h : u.a < s.size) (h2 : rdN s u.a u.bias = .ok (i, t)) (h3 : rightB ((u.n + (u.place + i) / (u.out.length + 1) : Nat) : Int) = true) (h4 : 256 < u.out.length + 1) : decF s (f + 1) u = .error (15, t - 1) := by
  rw [decF, if_neg (by omega), h2]; dsimp only; rw [if_neg (by rw [h3]; decide), if_pos h4]
theorem dec_next (h : u.a < s.size) (h2 : rdN s u.a u.bias = .ok (i, t)) (h3 : rightB ((u.n + (u.place + i) / (u.out.length + 1) : Nat) : Int) = true) (h4 : ¬ 256 < u.out.length + 1) : decF s (f + 1) u =
    decF s f ⟨t, u.n + (u.place + i) / (u.out.length + 1), (u.place + i) % (u.out.length + 1) + 1, adaptN i (u.out.length + 1) u.first, false, insL u.out ((u.place + i) % (u.out.length + 1)) (u.n + (u.place + i) / (u.out.length + 1))⟩ := by
  rw [decF, if_neg (by omega), h2]; dsimp only; rw [if_neg (by rw [h3]; decide), if_neg h4]
end
/-- The last mark's place; 0: none. -/
def lastK (s : ByteArray) : Nat → Nat
  | 0 => 0
  | k + 1 => if byteAt s k = 45 then k else lastK s k
theorem lastK_lt (s : ByteArray) : ∀ k, lastK s k ≤ k := by
  intro k
  induction k with
  | zero => exact Nat.le_refl _
  | succ k ih => unfold lastK; split <;> omega
/-- The first byte from 128 on, among so many from a place on. -/
def highF (s : ByteArray) : Nat → Nat → Option Nat
  | 0, _ => none
  | r + 1, k => if 128 ≤ (byteAt s k).toNat then some k else highF s r (k + 1)
theorem high_hit {s : ByteArray} {r k : Nat} (h : 128 ≤ (byteAt s k).toNat) : highF s (r + 1) k = some k := by rw [highF, if_pos h]
theorem high_next {s : ByteArray} {r k : Nat} (h : ¬ 128 ≤ (byteAt s k).toNat) : highF s (r + 1) k = highF s r (k + 1) := by rw [highF, if_neg h]
def headN (s : ByteArray) (l : Nat) : List Nat := (List.range l).map fun j => (byteAt s j).toNat
theorem headN_succ (s : ByteArray) (l : Nat) : headN s (l + 1) = headN s l ++ [(byteAt s l).toNat] := by unfold headN; rw [List.range_succ, List.map_append]; rfl
theorem headN_len (s : ByteArray) (l : Nat) : (headN s l).length = l := by unfold headN; simp
/-- What comes behind the marked head. -/
def decD (s : ByteArray) (l : Nat) : Except (Nat × Nat) (List Nat) :=
  if 256 < l then .error (15, if 0 < l then l + 1 else 0) else decF s s.size ⟨if 0 < l then l + 1 else 0, 128, 0, 72, true, headN s l⟩
def decE (s : ByteArray) : Except (Nat × Nat) (List Nat) :=
  if 1024 < s.size then .error (14, 1024) else
  match highF s (lastK s s.size) 0 with
  | some j => .error (11, j)
  | none => decD s (lastK s s.size)
end Go.Proofs.YtbonnmkkacplgaaGreatDoor

/- puny.Adapt, threshold, digit. -/
namespace Go.Proofs.YtbonnmkkacplgaaGreatDoor
open Go.RowKit

theorem adaptZ_neg {delta count : Int} {first : Bool} (h : delta < 0 ∨ count < 1) : adaptZ delta count first = 0 := by unfold adaptZ; rw [if_pos h]
theorem adaptZ_nat (d c : Nat) (first : Bool) (h : 1 ≤ c) : adaptZ (d : Int) (c : Int) first = (adaptN d c first : Int) := by
  unfold adaptZ; rw [if_neg (by omega)]; simp
theorem wrap64_inA (x : Int) (h1 : -9223372036854775808 ≤ x) (h2 : x ≤ 9223372036854775807) : wrap64 x = x := by unfold wrap64; omega
/-- What the loop begins with, as the walk reckons it. -/
theorem adapt0_int (d c : Nat) (first : Bool) (h : d ≤ 1099511627776) : (if first then wrap64 ((d : Int) / 700 + (d : Int) / 700 / (c : Int)) else wrap64 ((d : Int) / 2 + (d : Int) / 2 / (c : Int))) = ((adapt0 d c first : Nat) : Int) := by
  have h1 : ∀ x : Nat, x / c ≤ x := fun x => Nat.div_le_self _ _
  have e : ∀ x : Nat, ((x / c : Nat) : Int) = (x : Int) / (c : Int) := fun x => by simp
  cases first
  · have := h1 (d / 2)
    have e2 := e (d / 2)
    have e3 : ((d / 2 : Nat) : Int) = (d : Int) / 2 := by simp
    rw [e3] at e2
    simp only [adapt0, Bool.false_eq_true, if_false]
    have e4 : (0 : Int) ≤ (d : Int) / 2 / (c : Int) := by rw [← e2]; exact Int.natCast_nonneg _
    have e5 : (d : Int) / 2 / (c : Int) ≤ (d : Int) / 2 := by rw [← e2, ← e3]; exact Int.ofNat_le.2 (h1 _)
    generalize (d : Int) / 2 / (c : Int) = z at *
    rw [wrap64_inA _ (by omega) (by omega)]
    rw [Int.natCast_add, e2, e3]
  · have := h1 (d / 700)
    have e2 := e (d / 700)
    have e3 : ((d / 700 : Nat) : Int) = (d : Int) / 700 := by simp
    rw [e3] at e2
    simp only [adapt0, if_true]
    have e4 : (0 : Int) ≤ (d : Int) / 700 / (c : Int) := by rw [← e2]; exact Int.natCast_nonneg _
    have e5 : (d : Int) / 700 / (c : Int) ≤ (d : Int) / 700 := by rw [← e2, ← e3]; exact Int.ofNat_le.2 (h1 _)
    generalize (d : Int) / 700 / (c : Int) = z at *
    rw [wrap64_inA _ (by omega) (by omega)]
    rw [Int.natCast_add, e2, e3]
set_option maxHeartbeats 1600000 in
set_option maxRecDepth 100000 in
theorem puny_Adapt (delta count : Int) (first : Bool) (w : World) (h1 : delta ≤ 1099511627776) (h2 : count ≤ 1099511627776) :
    Calls Tryz.prog 67 #[.int .i64 delta, .int .i64 count, .bool first] w fun e w' => e = .returned (.int .i64 (adaptZ delta count first)) ∧ w = w' := by
  by_cases hd : delta < 0
  · have HV := Lib.hid (adaptZ_neg (first := first) (count := count) (.inl hd))
    go_enter Tryz.func67, Tryz.ntmps67
    go_wp2_with fail
    go_ret
    exact ⟨ret_i64 HV.out.symm, rfl⟩
  by_cases hc : count < 1
  · have HV := Lib.hid (adaptZ_neg (first := first) (delta := delta) (.inr hc))
    go_enter Tryz.func67, Tryz.ntmps67
    go_wp2_with fail
    go_ret
    exact ⟨ret_i64 HV.out.symm, rfl⟩
  obtain ⟨d, rfl⟩ : ∃ d : Nat, delta = d := ⟨delta.toNat, by omega⟩
  obtain ⟨c, rfl⟩ : ∃ c : Nat, count = c := ⟨count.toNat, by omega⟩
  have hc1 : 1 ≤ c := by omega
  rw [adaptZ_nat d c first hc1]
  have hz := adapt0_le d c first
  have hst := adapt0_int d c first (by omega)
  have hR : adaptL (adapt0 d c first) (adapt0 d c first) 0 = adaptN d c first := rfl
  have HR := Lib.hid hR
  clear hR hd hc
  generalize adaptN d c first = R at *
  generalize adapt0 d c first = D at *
  cases first
  all_goals
    simp only [Bool.false_eq_true, if_false, if_true, reduceIte] at hst
    have hs := congrArg (Value.int .i64) hst
    have HST := Lib.hid hs
    clear hst hs
    go_enter Tryz.func67, Tryz.ntmps67
    go_wp2_with fail
    go_loop [0, 7] (fun x y => ∃ f e k : Nat, x = .int .i64 e ∧ y = .int .i64 k ∧ e ≤ f ∧ k + e ≤ D ∧ adaptL f e k = R) (fun x _ => (intOf x).toNat)
    case atStart => exact ⟨D, D, 0, HST.out, rfl, Nat.le_refl _, by omega, HR.out⟩
    case round =>
      obtain ⟨f, e, k, rfl, rfl, hef, hke, hg⟩ := hrel
      by_cases h5 : 455 < e
      · obtain ⟨f', rfl⟩ : ∃ f', f = f' + 1 := ⟨f - 1, by omega⟩
        rw [adaptL_go h5] at hg
        have HG := Lib.hid hg
        have h5I : (e : Int) > 455 := by omega
        clear hg
        go_wp2_with fail
        go_round
        case rel => exact ⟨f', e / 35, k + 36, by simp, by simp, by omega, by omega, HG.out⟩
        case measure => simp [intOf]; omega
      · rw [adaptL_end h5] at hg
        have h5I : ¬ (e : Int) > 455 := by omega
        have hq : 36 * e / (e + 38) ≤ 36 * e := Nat.div_le_self _ _
        have hqc : ((36 * e / (e + 38) : Nat) : Int) = 36 * (e : Int) / ((e : Int) + 38) := by simp
        have HG := Lib.hid hg
        generalize 36 * e / (e + 38) = q at *
        have HQ := Lib.hid hqc
        clear hg hqc
        go_wp2_with fail
        rw [← HQ.out]
        go_wp2_with fail
        go_ret
        exact ⟨ret_i64 (by rw [wrap64_inA _ (by omega) (by omega), ← HG.out]; simp), rfl⟩
end Go.Proofs.YtbonnmkkacplgaaGreatDoor
