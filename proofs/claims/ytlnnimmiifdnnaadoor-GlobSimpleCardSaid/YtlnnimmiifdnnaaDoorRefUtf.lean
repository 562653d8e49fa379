/- The reference's Half, Right, Put, guess, of chapter 01. -/
import Derived.Test.YtlnnimmiifdnnaaDoorRefUtfPlain
import Derived.Test.YtlnnimmiifdnnaaDoorUtfNext
namespace Go.Proofs.YtlnnimmiifdnnaaDoor
open Go.RowKit

def halfZ (n : Int) : Int := if 55296 ≤ n ∧ n < 56320 then 1 else if 56320 ≤ n ∧ n < 57344 then 2 else 0
def rightB (n : Int) : Bool := decide (0 ≤ n) && decide (n < 1114112) && decide (halfZ n = 0)
theorem rightB_iff (n : Int) : rightB n = true ↔ rightZ n := by
  unfold rightB rightZ halfZ
  simp only [Bool.and_eq_true, decide_eq_true_eq]
  repeat' split
  all_goals omega

set_option maxHeartbeats 800000 in
theorem ref_Half (n : Int) (w : World) : Calls Tryd.prog 51 #[.int .i64 n] w fun e w' => e = .returned (.int .i64 (halfZ n)) ∧ w = w' := by
  have hc : n < 55296 ∨ (55296 ≤ n ∧ n < 56320) ∨ (56320 ≤ n ∧ n < 57344) ∨ 57344 ≤ n := by omega
  have h0 : n < 55296 ∨ 57344 ≤ n → halfZ n = 0 := by intro h; unfold halfZ; rw [if_neg (by omega), if_neg (by omega)]
  have h1 : 55296 ≤ n ∧ n < 56320 → halfZ n = 1 := by intro h; unfold halfZ; rw [if_pos h]
  have h2 : 56320 ≤ n ∧ n < 57344 → halfZ n = 2 := by intro h; unfold halfZ; rw [if_neg (by omega), if_pos h]
  have H0 := Lib.hid h0
  have H1 := Lib.hid h1
  have H2 := Lib.hid h2
  clear h0 h1 h2
  rcases hc with h | ⟨h, h'⟩ | ⟨h, h'⟩ | h
  all_goals
    go_enter Tryd.func51, Tryd.ntmps51
    go_wp2
    go_ret
  · exact ⟨ret_i64 (H0.out (by omega)).symm, rfl⟩
  · exact ⟨ret_i64 (H1.out (by omega)).symm, rfl⟩
  · exact ⟨ret_i64 (H2.out (by omega)).symm, rfl⟩
  · exact ⟨ret_i64 (H0.out (by omega)).symm, rfl⟩

set_option maxHeartbeats 800000 in
theorem ref_Right (n : Int) (w : World) : Calls Tryd.prog 43 #[.int .i64 n] w fun e w' => e = .returned (.bool (rightB n)) ∧ w = w' := by
  have hd : rightB n = (decide (0 ≤ n) && decide (n < 1114112) && decide (halfZ n = 0)) := rfl
  have HD := Lib.hid hd
  clear hd
  by_cases a1 : 0 ≤ n
  · by_cases a2 : n < 1114112
    · by_cases a3 : halfZ n = 0
      · have e1 : (halfZ n == 0) = true := by rw [beq_iff_eq]; exact a3
        have HR := Lib.hid (show rightB n = true by rw [HD.out, decide_eq_true a1, decide_eq_true a2, decide_eq_true a3]; rfl)
        clear a3
        go_enter Tryd.func43, Tryd.ntmps43
        go_wp2_with fail
        refine (ref_Half n _).mono ?_
        rintro e w1 ⟨rfl, rfl⟩
        go_wp2_with fail
        go_ret
        exact ⟨ret_bool HR.out.symm, rfl⟩
      · have e1 : (halfZ n == 0) = false := by rw [beq_eq_false_iff_ne]; exact a3
        have HR := Lib.hid (show rightB n = false by rw [HD.out, decide_eq_false a3, Bool.and_false])
        clear a3
        go_enter Tryd.func43, Tryd.ntmps43
        go_wp2_with fail
        refine (ref_Half n _).mono ?_
        rintro e w1 ⟨rfl, rfl⟩
        go_wp2_with fail
        go_ret
        exact ⟨ret_bool HR.out.symm, rfl⟩
    · have HR := Lib.hid (show rightB n = false by rw [HD.out, decide_eq_false a2, Bool.and_false, Bool.false_and])
      have a2' : 1114112 ≤ n := by omega
      clear a2
      go_enter Tryd.func43, Tryd.ntmps43
      go_wp2_with fail
      go_ret
      exact ⟨ret_bool HR.out.symm, rfl⟩
  · have HR := Lib.hid (show rightB n = false by rw [HD.out, decide_eq_false a1, Bool.false_and, Bool.false_and])
    have a1' : n < 0 := by omega
    clear a1
    go_enter Tryd.func43, Tryd.ntmps43
    go_wp2_with fail
    go_ret
    exact ⟨ret_bool HR.out.symm, rfl⟩

theorem put1 {n : Nat} (h : n < 128) : putN n = [n] := by unfold putN; rw [if_pos h]
theorem put2 {n : Nat} (h : 128 ≤ n) (h' : n < 2048) : putN n = [192 + n / 64, 128 + n % 64] := by unfold putN; rw [if_neg (by omega), if_pos (by omega)]
theorem put3 {n : Nat} (h : 2048 ≤ n) (h' : n < 65536) : putN n = [224 + n / 4096, 128 + n / 64 % 64, 128 + n % 64] := by unfold putN; rw [if_neg (by omega), if_neg (by omega), if_pos (by omega)]
theorem put4 {n : Nat} (h : 65536 ≤ n) : putN n = [240 + n / 262144, 128 + n / 4096 % 64, 128 + n / 64 % 64, 128 + n % 64] := by unfold putN; rw [if_neg (by omega), if_neg (by omega), if_neg (by omega)]
/-- A character's bytes, as bytes. -/
def putL (n : Nat) : List UInt8 := (putN n).map UInt8.ofNat
def PutPost (n : Nat) (w : World) (e : Ending) (w' : World) : Prop :=
  e = .returned (.slice (some ⟨w.heap.size, 0, none⟩) (putL n).length (putL n).length) ∧ Below w.heap.size w w' ∧ BytesAt w' w.heap.size (putL n) ∧ w'.heap.size = w.heap.size + 1

theorem PutPost.mk' {n : Nat} {w : World} {cs : Array Value} {k : Nat} (hcs : cs = ((putN n).map fun x : Nat => Value.int .u8 (x : Int)).toArray) (hn : n < 1114112) (hk : k = (putN n).length) :
    PutPost n w (.returned (.slice (some ⟨w.heap.size, 0, none⟩) k k)) (w.alloc (.cells cs 5)) := by
  have hl : (putL n).length = (putN n).length := by simp [putL]
  have hb : ∀ x, x ∈ putN n → x < 256 := by
    intro x hx
    unfold putN at hx
    repeat' split at hx
    all_goals simp at hx; omega
  refine ⟨by rw [hk, hl], (Below.refl _ _).alloc (Nat.le_refl _) _, ⟨5, [], 0, 0, .inl (Nat.le_refl _), ?_⟩, by simp⟩
  refine (heap_alloc_new w _).trans ?_
  congr 2
  rw [hcs]
  congr 1
  rw [List.append_nil, putL, List.map_map]
  refine List.map_congr_left fun x hx => ?_
  simp only [Function.comp, byteV]
  rw [UInt8.toNat_ofNat_of_lt' (hb x hx)]

set_option maxHeartbeats 1600000 in
set_option maxRecDepth 100000 in
theorem ref_Put (n : Nat) (hn : n < 1114112) (w : World) : Calls Tryd.prog 33 #[.int .i64 (n : Int)] w (PutPost n w) := by
  have hc : n < 128 ∨ (128 ≤ n ∧ n < 2048) ∨ (2048 ≤ n ∧ n < 65536) ∨ 65536 ≤ n := by omega
  have q2 : (0 : Int) ≤ (n : Int) / 64 % 64 := by omega
  have q3 : (n : Int) / 64 % 64 ≤ 63 := by omega
  have q4 : (0 : Int) ≤ (n : Int) % 64 := by omega
  have q5 : (n : Int) % 64 ≤ 63 := by omega
  have q6 : (0 : Int) ≤ (n : Int) / 64 := by omega
  have q7 : (0 : Int) ≤ (n : Int) / 4096 % 64 := by omega
  have q8 : (n : Int) / 4096 % 64 ≤ 63 := by omega
  have q9 : (0 : Int) ≤ (n : Int) / 4096 := by omega
  have qa : (0 : Int) ≤ (n : Int) / 262144 := by omega
  have qb : (n : Int) / 262144 ≤ 4 := by omega
  rcases hc with h | ⟨h, h'⟩ | ⟨h, h'⟩ | h
  · go_enter Tryd.func33, Tryd.ntmps33
    go_wp2_with fail
    go_ret
    exact PutPost.mk' (by rw [put1 h]; rfl) hn (by rw [put1 h]; rfl)
  · go_enter Tryd.func33, Tryd.ntmps33
    go_wp2_with fail
    go_ret
    exact PutPost.mk' (by rw [put2 h h']; simp) hn (by rw [put2 h h']; rfl)
  · have qc : (n : Int) / 4096 ≤ 15 := by omega
    have d1 : decide ((n : Int) < 128) = false := by simp; omega
    have d2 : decide ((n : Int) < 2048) = false := by simp; omega
    have d3 : decide ((n : Int) < 65536) = true := by simp; omega
    go_enter Tryd.func33, Tryd.ntmps33
    go_wp2_with fail
    go_ret
    exact PutPost.mk' (by rw [put3 h h']; simp) hn (by rw [put3 h h']; rfl)
  · have d1 : decide ((n : Int) < 128) = false := by simp; omega
    have d2 : decide ((n : Int) < 2048) = false := by simp; omega
    have d3 : decide ((n : Int) < 65536) = false := by simp; omega
    go_enter Tryd.func33, Tryd.ntmps33
    go_wp2_with fail
    go_ret
    exact PutPost.mk' (by rw [put4 h]; simp) hn (by rw [put4 h]; rfl)

/-- The number that so many bytes of a text would tell. -/
def guessB (s : ByteArray) (i k : Nat) : Int := guessZ k (byteAt s i).toNat (byteAt s (i + 1)).toNat (byteAt s (i + 2)).toNat (byteAt s (i + 3)).toNat

set_option maxHeartbeats 3200000 in
set_option maxRecDepth 100000 in
theorem ref_guess (s : ByteArray) (i k b off cap : Nat) (w : World) (hk1 : 1 ≤ k) (hk4 : k ≤ 4) (hi : i + k ≤ s.size) (hs : s.size ≤ 140737488351232) (hp : BytesIn w b off s) :
    Calls Tryd.prog 42 #[.slice (some ⟨b, off, none⟩) s.size cap, .int .i64 (i : Int), .int .i64 (k : Int)] w fun e w' => e = .returned (.int .i64 (guessB s i k)) ∧ w = w' := by
  have c0 : w.cell? ⟨b, off + i, none⟩ = some (.int .u8 ((byteAt s i).toNat : Int)) := hp i (by omega)
  have c1 : 2 ≤ k → w.cell? ⟨b, off + (i + 1), none⟩ = some (.int .u8 ((byteAt s (i + 1)).toNat : Int)) := fun _ => hp (i + 1) (by omega)
  have c2 : 3 ≤ k → w.cell? ⟨b, off + (i + 2), none⟩ = some (.int .u8 ((byteAt s (i + 2)).toNat : Int)) := fun _ => hp (i + 2) (by omega)
  have c3 : 4 ≤ k → w.cell? ⟨b, off + (i + 3), none⟩ = some (.int .u8 ((byteAt s (i + 3)).toNat : Int)) := fun _ => hp (i + 3) (by omega)
  have b0 := (byteAt s i).toNat_lt
  have b1 := (byteAt s (i + 1)).toNat_lt
  have b2 := (byteAt s (i + 2)).toNat_lt
  have b3 := (byteAt s (i + 3)).toNat_lt
  have hg : guessB s i k = guessZ k (byteAt s i).toNat (byteAt s (i + 1)).toNat (byteAt s (i + 2)).toNat (byteAt s (i + 3)).toNat := rfl
  generalize (byteAt s i).toNat = x0 at *
  generalize (byteAt s (i + 1)).toNat = x1 at *
  generalize (byteAt s (i + 2)).toNat = x2 at *
  generalize (byteAt s (i + 3)).toNat = x3 at *
  have HG := Lib.hid hg
  clear hg hp
  have hc : k = 1 ∨ k = 2 ∨ k = 3 ∨ k = 4 := by omega
  rcases hc with rfl | rfl | rfl | rfl
  · clear c1 c2 c3
    go_enter Tryd.func42, Tryd.ntmps42
    go_wp2_with fail
    refine wp_loop_rounds 1 ?_
    rw [rounds_succ]
    go_wp2_with fail
    go_ret
    exact ⟨ret_i64 (by rw [HG.out, show ((1 : Nat) : Int) = 1 from rfl, guess1]), rfl⟩
  · have c1 := c1 (by omega)
    clear c2 c3
    go_enter Tryd.func42, Tryd.ntmps42
    go_wp2_with fail
    refine wp_loop_rounds 2 ?_
    rw [rounds_succ]
    go_wp2_with fail
    rw [rounds_succ]
    go_wp2_with fail
    go_ret
    exact ⟨ret_i64 (by rw [HG.out, show ((2 : Nat) : Int) = 2 from rfl, guess2]), rfl⟩
  · have c1 := c1 (by omega)
    have c2 := c2 (by omega)
    clear c3
    go_enter Tryd.func42, Tryd.ntmps42
    go_wp2_with fail
    refine wp_loop_rounds 3 ?_
    rw [rounds_succ]
    go_wp2_with fail
    rw [rounds_succ]
    go_wp2_with fail
    rw [rounds_succ]
    go_wp2_with fail
    go_ret
    exact ⟨ret_i64 (by rw [HG.out, show ((3 : Nat) : Int) = 3 from rfl, guess3]), rfl⟩
  · have c1 := c1 (by omega)
    have c2 := c2 (by omega)
    have c3 := c3 (by omega)
    go_enter Tryd.func42, Tryd.ntmps42
    go_wp2_with fail
    refine wp_loop_rounds 4 ?_
    rw [rounds_succ]
    go_wp2_with fail
    rw [rounds_succ]
    go_wp2_with fail
    rw [rounds_succ]
    go_wp2_with fail
    rw [rounds_succ]
    go_wp2_with fail
    go_ret
    exact ⟨ret_i64 (by rw [HG.out, show ((4 : Nat) : Int) = 4 from rfl, guess4]), rfl⟩
end Go.Proofs.YtlnnimmiifdnnaaDoor
