/- The reference's Half, Right, Put, guess, of chapter 01. -/
import Derived.Test.YtkeankhacjgdhaaRefUtfPlain
import Derived.Test.YtkeankhacjgdhaaBytes
import Derived.Test.YtkeankhacjgdhaaApi
import Derived.Test.YtkeankhacjgdhaaShelf
namespace Go.Proofs.Ytkeankhacjgdhaa
open Go.RowKit

def halfZ (n : Int) : Int := if 55296 ≤ n ∧ n < 56320 then 1 else if 56320 ≤ n ∧ n < 57344 then 2 else 0
def rightB (n : Int) : Bool := decide (0 ≤ n) && decide (n < 1114112) && decide (halfZ n = 0)
theorem rightB_iff (n : Int) : rightB n = true ↔ rightZ n := by
  unfold rightB rightZ halfZ
  simp only [Bool.and_eq_true, decide_eq_true_eq]
  repeat' split
  all_goals omega

set_option maxHeartbeats 800000 in
theorem ref_Half (n : Int) (w : World) : Calls Try.prog 24 #[.int .i64 n] w fun e w' => e = .returned (.int .i64 (halfZ n)) ∧ w = w' := by
  have hc : n < 55296 ∨ (55296 ≤ n ∧ n < 56320) ∨ (56320 ≤ n ∧ n < 57344) ∨ 57344 ≤ n := by omega
  have h0 : n < 55296 ∨ 57344 ≤ n → halfZ n = 0 := by intro h; unfold halfZ; rw [if_neg (by omega), if_neg (by omega)]
  have h1 : 55296 ≤ n ∧ n < 56320 → halfZ n = 1 := by intro h; unfold halfZ; rw [if_pos h]
  have h2 : 56320 ≤ n ∧ n < 57344 → halfZ n = 2 := by intro h; unfold halfZ; rw [if_neg (by omega), if_pos h]
  have H0 := Lib.hid h0
  have H1 := Lib.hid h1
  have H2 := Lib.hid h2
  clear h0 h1 h2
  rcases hc with h | ⟨h, h'⟩ | ⟨h, h'⟩ | h
  all_goals
    go_enter Try.func24, Try.ntmps24
    go_wp2
    go_ret
  · exact ⟨ret_i64 (H0.out (by omega)).symm, rfl⟩
  · exact ⟨ret_i64 (H1.out (by omega)).symm, rfl⟩
  · exact ⟨ret_i64 (H2.out (by omega)).symm, rfl⟩
  · exact ⟨ret_i64 (H0.out (by omega)).symm, rfl⟩

set_option maxHeartbeats 800000 in
theorem ref_Right (n : Int) (w : World) : Calls Try.prog 11 #[.int .i64 n] w fun e w' => e = .returned (.bool (rightB n)) ∧ w = w' := by
  have hd : rightB n = (decide (0 ≤ n) && decide (n < 1114112) && decide (halfZ n = 0)) := rfl
  have HD := Lib.hid hd
  clear hd
  by_cases a1 : 0 ≤ n
  · by_cases a2 : n < 1114112
    · by_cases a3 : halfZ n = 0
      · have e1 : (halfZ n == 0) = true := by rw [beq_iff_eq]; exact a3
        have HR := Lib.hid (show rightB n = true by rw [HD.out, decide_eq_true a1, decide_eq_true a2, decide_eq_true a3]; rfl)
        clear a3
        go_enter Try.func11, Try.ntmps11
        go_wp2_with fail
        refine (ref_Half n _).mono ?_
        rintro e w1 ⟨rfl, rfl⟩
        go_wp2_with fail
        go_ret
        exact ⟨ret_bool HR.out.symm, rfl⟩
      · have e1 : (halfZ n == 0) = false := by rw [beq_eq_false_iff_ne]; exact a3
        have HR := Lib.hid (show rightB n = false by rw [HD.out, decide_eq_false a3, Bool.and_false])
        clear a3
        go_enter Try.func11, Try.ntmps11
        go_wp2_with fail
        refine (ref_Half n _).mono ?_
        rintro e w1 ⟨rfl, rfl⟩
        go_wp2_with fail
        go_ret
        exact ⟨ret_bool HR.out.symm, rfl⟩
    · have HR := Lib.hid (show rightB n = false by rw [HD.out, decide_eq_false a2, Bool.and_false, Bool.false_and])
      have a2' : 1114112 ≤ n := by omega
      clear a2
      go_enter Try.func11, Try.ntmps11
      go_wp2_with fail
      go_ret
      exact ⟨ret_bool HR.out.symm, rfl⟩
  · have HR := Lib.hid (show rightB n = false by rw [HD.out, decide_eq_false a1, Bool.false_and, Bool.false_and])
    have a1' : n < 0 := by omega
    clear a1
    go_enter Try.func11, Try.ntmps11
    go_wp2_with fail
    go_ret
    exact ⟨ret_bool HR.out.symm, rfl⟩

theorem put1 {n : Nat} (h : n < 128) : putN n = [n] := by unfold putN; rw [if_pos h]
theorem put2 {n : Nat} (h : 128 ≤ n) (h' : n < 2048) : putN n = [192 + n / 64, 128 + n % 64] := by unfold putN; rw [if_neg (by omega), if_pos (by omega)]
theorem put3 {n : Nat} (h : 2048 ≤ n) (h' : n < 65536) : putN n = [224 + n / 4096, 128 + n / 64 % 64, 128 + n % 64] := by unfold putN; rw [if_neg (by omega), if_neg (by omega), if_pos (by omega)]
theorem put4 {n : Nat} (h : 65536 ≤ n) : putN n = [240 + n / 262144, 128 + n / 4096 % 64, 128 + n / 64 % 64, 128 + n % 64] := by unfold putN; rw [if_neg (by omega), if_neg (by omega), if_neg (by omega)]
/-- A character's bytes, as bytes. -/
def putL (n : Nat) : List UInt8 := (putN n).map UInt8.ofNat
def PutPost (n : Nat) (w : World) (e : Ending) (w' : World) : Prop :=
  e = .returned (.slice (some ⟨w.heap.size, 0, none⟩) (putL n).length (putL n).length) ∧ Below w.heap.size w w' ∧ BytesAt w' w.heap.size (putL n) ∧ w'.heap.size = w.heap.size + 1

theorem PutPost.mk' {n : Nat} {w : World} {cs : Array Value} {k : Nat} (hcs : cs = ((putN n).map fun x : Nat => Value.int .u8 (x : Int)).toArray) (hn : n < 1114112) (hk : k = (putN n).length) :
    PutPost n w (.returned (.slice (some ⟨w.heap.size, 0, none⟩) k k)) (w.alloc (.cells cs 5)) := by
  have hl : (putL n).length = (putN n).length := by simp [putL]
  have hb : ∀ x, x ∈ putN n → x < 256 := by
    intro x hx
    unfold putN at hx
    repeat' split at hx
    all_goals simp at hx; omega
  refine ⟨by rw [hk, hl], (Below.refl _ _).alloc (Nat.le_refl _) _, ⟨5, [], 0, 0, .inl (Nat.le_refl _), ?_⟩, by simp⟩
  refine (heap_alloc_new w _).trans ?_
  congr 2
  rw [hcs]
  congr 1
  rw [List.append_nil, putL, List.map_map]
  refine List.map_congr_left fun x hx => ?_
  simp only [Function.comp, byteV]
  rw [UInt8.toNat_ofNat_of_lt' (hb x hx)]

def guessB (s : ByteArray) (i k : Nat) : Int := guessZ k (byteAt s i).toNat (byteAt s (i + 1)).toNat (byteAt s (i + 2)).toNat (byteAt s (i + 3)).toNat

end Go.Proofs.Ytkeankhacjgdhaa
