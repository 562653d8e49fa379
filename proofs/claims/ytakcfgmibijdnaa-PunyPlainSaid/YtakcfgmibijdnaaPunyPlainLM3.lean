/- The reference's Half, Right, Put, guess, of chapter 01. -/
import Derived.Test.YtakcfgmibijdnaaPunyPlainLM2
import Derived.Test.YtakcfgmibijdnaaShelf
import Derived.Test.YtakcfgmibijdnaaPunyPlainLM1
import Derived.Lib.Builder
import Derived.Lib.AppendStr
import Derived.Lib.UnsafeStr
import Derived.Laws.Externs

namespace Go.Proofs.Ytakcfgmibijdnaa
open Go.RowKit

def halfZ (n : Int) : Int := if 55296 ≤ n ∧ n < 56320 then 1 else if 56320 ≤ n ∧ n < 57344 then 2 else 0
def rightB (n : Int) : Bool := decide (0 ≤ n) && decide (n < 1114112) && decide (halfZ n = 0)
theorem rightB_iff (n : Int) : rightB n = true ↔ rightZ n := by
  unfold rightB rightZ halfZ
  simp only [Bool.and_eq_true, decide_eq_true_eq]
  repeat' split
  all_goals omega

set_option maxHeartbeats 800000 in
theorem ref_Half (n : Int) (w : World) : Calls Try.prog 22 #[.int .i64 n] w fun e w' => e = .returned (.int .i64 (halfZ n)) ∧ w = w' := by
  have hc : n < 55296 ∨ (55296 ≤ n ∧ n < 56320) ∨ (56320 ≤ n ∧ n < 57344) ∨ 57344 ≤ n := by omega
  have h0 : n < 55296 ∨ 57344 ≤ n → halfZ n = 0 := by intro h; unfold halfZ; rw [if_neg (by omega), if_neg (by omega)]
  have h1 : 55296 ≤ n ∧ n < 56320 → halfZ n = 1 := by intro h; unfold halfZ; rw [if_pos h]
  have h2 : 56320 ≤ n ∧ n < 57344 → halfZ n = 2 := by intro h; unfold halfZ; rw [if_neg (by omega), if_pos h]
  have H0 := Lib.hid h0
  have H1 := Lib.hid h1
  have H2 := Lib.hid h2
  clear h0 h1 h2
  rcases hc with h | ⟨h, h'⟩ | ⟨h, h'⟩ | h
  all_goals
    go_enter Try.func22, Try.ntmps22
    go_wp2
    go_ret
  · exact ⟨ret_i64 (H0.out (by omega)).symm, rfl⟩
  · exact ⟨ret_i64 (H1.out (by omega)).symm, rfl⟩
  · exact ⟨ret_i64 (H2.out (by omega)).symm, rfl⟩
  · exact ⟨ret_i64 (H0.out (by omega)).symm, rfl⟩

set_option maxHeartbeats 800000 in
theorem ref_Right (n : Int) (w : World) : Calls Try.prog 8 #[.int .i64 n] w fun e w' => e = .returned (.bool (rightB n)) ∧ w = w' := by
  have hd : rightB n = (decide (0 ≤ n) && decide (n < 1114112) && decide (halfZ n = 0)) := rfl
  have HD := Lib.hid hd
  clear hd
  by_cases a1 : 0 ≤ n
  · by_cases a2 : n < 1114112
    · by_cases a3 : halfZ n = 0
      · have e1 : (halfZ n == 0) = true := by rw [beq_iff_eq]; exact a3
        have HR := Lib.hid (show rightB n = true by rw [HD.out, decide_eq_true a1, decide_eq_true a2, decide_eq_true a3]; rfl)
        clear a3
        go_enter Try.func8, Try.ntmps8
        go_wp2_with fail
        refine (ref_Half n _).mono ?_
        rintro e w1 ⟨rfl, rfl⟩
        go_wp2_with fail
        go_ret
        exact ⟨ret_bool HR.out.symm, rfl⟩
      · have e1 : (halfZ n == 0) = false := by rw [beq_eq_false_iff_ne]; exact a3
        have HR := Lib.hid (show rightB n = false by rw [HD.out, decide_eq_false a3, Bool.and_false])
        clear a3
        go_enter Try.func8, Try.ntmps8
        go_wp2_with fail
        refine (ref_Half n _).mono ?_
        rintro e w1 ⟨rfl, rfl⟩
        go_wp2_with fail
        go_ret
        exact ⟨ret_bool HR.out.symm, rfl⟩
    · have HR := Lib.hid (show rightB n = false by rw [HD.out, decide_eq_false a2, Bool.and_false, Bool.false_and])
      have a2' : 1114112 ≤ n := by omega
      clear a2
      go_enter Try.func8, Try.ntmps8
      go_wp2_with fail
      go_ret
      exact ⟨ret_bool HR.out.symm, rfl⟩
  · have HR := Lib.hid (show rightB n = false by rw [HD.out, decide_eq_false a1, Bool.false_and, Bool.false_and])
    have a1' : n < 0 := by omega
    clear a1
    go_enter Try.func8, Try.ntmps8
    go_wp2_with fail
    go_ret
    exact ⟨ret_bool HR.out.symm, rfl⟩

theorem put1 {n : Nat} (h : n < 128) : putN n = [n] := by unfold putN; rw [if_pos h]
theorem put2 {n : Nat} (h : 128 ≤ n) (h' : n < 2048) : putN n = [192 + n / 64, 128 + n % 64] := by unfold putN; rw [if_neg (by omega), if_pos (by omega)]
theorem put3 {n : Nat} (h : 2048 ≤ n) (h' : n < 65536) : putN n = [224 + n / 4096, 128 + n / 64 % 64, 128 + n % 64] := by unfold putN; rw [if_neg (by omega), if_neg (by omega), if_pos (by omega)]
theorem put4 {n : Nat} (h : 65536 ≤ n) : putN n = [240 + n / 262144, 128 + n / 4096 % 64, 128 + n / 64 % 64, 128 + n % 64] := by unfold putN; rw [if_neg (by omega), if_neg (by omega), if_neg (by omega)]
/-- A character's bytes, as bytes. -/
def putL (n : Nat) : List UInt8 := (putN n).map UInt8.ofNat
def PutPost (n : Nat) (w : World) (e : Ending) (w' : World) : Prop :=
  e = .returned (.slice (some ⟨w.heap.size, 0, none⟩) (putL n).length (putL n).length) ∧ Below w.heap.size w w' ∧ BytesAt w' w.heap.size (putL n) ∧ w'.heap.size = w.heap.size + 1

theorem PutPost.mk' {n : Nat} {w : World} {cs : Array Value} {k : Nat} (hcs : cs = ((putN n).map fun x : Nat => Value.int .u8 (x : Int)).toArray) (hn : n < 1114112) (hk : k = (putN n).length) :
    PutPost n w (.returned (.slice (some ⟨w.heap.size, 0, none⟩) k k)) (w.alloc (.cells cs 5)) := by
  have hl : (putL n).length = (putN n).length := by simp [putL]
  have hb : ∀ x, x ∈ putN n → x < 256 := by
    intro x hx
    unfold putN at hx
    repeat' split at hx
    all_goals simp at hx; omega
  refine ⟨by rw [hk, hl], (Below.refl _ _).alloc (Nat.le_refl _) _, ⟨5, [], 0, 0, .inl (Nat.le_refl _), ?_⟩, by simp⟩
  refine (heap_alloc_new w _).trans ?_
  congr 2
  rw [hcs]
  congr 1
  rw [List.append_nil, putL, List.map_map]
  refine List.map_congr_left fun x hx => ?_
  simp only [Function.comp, byteV]
  rw [UInt8.toNat_ofNat_of_lt' (hb x hx)]

def guessB (s : ByteArray) (i k : Nat) : Int := guessZ k (byteAt s i).toNat (byteAt s (i + 1)).toNat (byteAt s (i + 2)).toNat (byteAt s (i + 3)).toNat

end Go.Proofs.Ytakcfgmibijdnaa

/- Reading letters and digits as characters, in plain words. -/
namespace Go.Proofs.Ytakcfgmibijdnaa
open Go.RowKit

def valN (c : UInt8) : Option Nat :=
  if 65 ≤ c.toNat ∧ c.toNat ≤ 90 then some (c.toNat - 65) else if 97 ≤ c.toNat ∧ c.toNat ≤ 122 then some (c.toNat - 97) else if 48 ≤ c.toNat ∧ c.toNat ≤ 57 then some (c.toNat - 48 + 26) else none
theorem valN_lt {c : UInt8} {d : Nat} (h : valN c = some d) : d < 36 := by
  unfold valN at h
  split at h
  · cases h; omega
  · split at h
    · cases h; omega
    · split at h
      · cases h; omega
      · cases h
/-- A number that is read from a place on. -/
def rdF (s : ByteArray) (b : Nat) : Nat → Nat → Nat → Nat → Nat → Except (Nat × Nat) (Nat × Nat)
  | 0, a, _, _, _ => .error (10, a)
  | f + 1, a, n, w, k =>
    if s.size ≤ a then .error (10, a) else
    match valN (byteAt s a) with
    | none => .error (11, a)
    | some d =>
      if 2147483647 < n + d * w then .error (16, a) else
      if d < thrN k b then .ok (n + d * w, a + 1) else
      if 2147483647 < w * (36 - thrN k b) then .error (16, a) else rdF s b f (a + 1) (n + d * w) (w * (36 - thrN k b)) (k + 36)
section
variable {s : ByteArray} {b f a n w k d : Nat}
theorem rd_end (h : s.size ≤ a) : rdF s b f a n w k = .error (10, a) := by
  cases f with
  | zero => rfl
  | succ f => rw [rdF, if_pos h]
theorem rd_form (h : a < s.size) (h2 : valN (byteAt s a) = none) : rdF s b (f + 1) a n w k = .error (11, a) := by
  rw [rdF, if_neg (by omega), h2]
theorem rd_far (h : a < s.size) (h2 : valN (byteAt s a) = some d) (h3 : 2147483647 < n + d * w) : rdF s b (f + 1) a n w k = .error (16, a) := by
  rw [rdF, if_neg (by omega), h2]; dsimp only; rw [if_pos h3]
theorem rd_ok (h : a < s.size) (h2 : valN (byteAt s a) = some d) (h3 : ¬ 2147483647 < n + d * w) (h4 : d < thrN k b) : rdF s b (f + 1) a n w k = .ok (n + d * w, a + 1) := by
  rw [rdF, if_neg (by omega), h2]; dsimp only; rw [if_neg h3, if_pos h4]
theorem rd_wide (h : a < s.size) (h2 : valN (byteAt s a) = some d) (h3 : ¬ 2147483647 < n + d * w) (h4 : ¬ d < thrN k b) (h5 : 2147483647 < w * (36 - thrN k b)) : rdF s b (f + 1) a n w k = .error (16, a) := by
  rw [rdF, if_neg (by omega), h2]; dsimp only; rw [if_neg h3, if_neg h4, if_pos h5]
theorem rd_next (h : a < s.size) (h2 : valN (byteAt s a) = some d) (h3 : ¬ 2147483647 < n + d * w) (h4 : ¬ d < thrN k b) (h5 : ¬ 2147483647 < w * (36 - thrN k b)) : rdF s b (f + 1) a n w k = rdF s b f (a + 1) (n + d * w) (w * (36 - thrN k b)) (k + 36) := by
  rw [rdF, if_neg (by omega), h2]; dsimp only; rw [if_neg h3, if_neg h4, if_neg h5]
end
def rdN (s : ByteArray) (a b : Nat) : Except (Nat × Nat) (Nat × Nat) := rdF s b (s.size - a) a 0 1 36
theorem rdF_bounds (s : ByteArray) (b : Nat) : ∀ (f a n w k i t : Nat), rdF s b f a n w k = .ok (i, t) → a < t ∧ t ≤ s.size ∧ i ≤ 2147483647 := by
  intro f
  induction f with
  | zero => intro a n w k i t h; cases h
  | succ f ih =>
    intro a n w k i t h
    by_cases h1 : s.size ≤ a
    · rw [rd_end h1] at h; cases h
    cases h2 : valN (byteAt s a) with
    | none => rw [rd_form (by omega) h2] at h; cases h
    | some d =>
      by_cases h3 : 2147483647 < n + d * w
      · rw [rd_far (by omega) h2 h3] at h; cases h
      by_cases h4 : d < thrN k b
      · rw [rd_ok (by omega) h2 h3 h4] at h; cases h; omega
      by_cases h5 : 2147483647 < w * (36 - thrN k b)
      · rw [rd_wide (by omega) h2 h3 h4 h5] at h; cases h
      rw [rd_next (by omega) h2 h3 h4 h5] at h
      have := ih _ _ _ _ _ _ h
      omega
theorem rdF_kind (s : ByteArray) (b : Nat) : ∀ (f a n w k e j : Nat), rdF s b f a n w k = .error (e, j) → e ≠ 0 := by
  intro f
  induction f with
  | zero => intro a n w k e j h; cases h; decide
  | succ f ih =>
    intro a n w k e j h
    by_cases h1 : s.size ≤ a
    · rw [rd_end h1] at h; cases h; decide
    cases h2 : valN (byteAt s a) with
    | none => rw [rd_form (by omega) h2] at h; cases h; decide
    | some d =>
      by_cases h3 : 2147483647 < n + d * w
      · rw [rd_far (by omega) h2 h3] at h; cases h; decide
      by_cases h4 : d < thrN k b
      · rw [rd_ok (by omega) h2 h3 h4] at h; cases h
      by_cases h5 : 2147483647 < w * (36 - thrN k b)
      · rw [rd_wide (by omega) h2 h3 h4 h5] at h; cases h; decide
      rw [rd_next (by omega) h2 h3 h4 h5] at h
      exact ih _ _ _ _ _ _ h

structure DSt where
  a : Nat
  n : Nat
  place : Nat
  bias : Nat
  first : Bool
  out : List Nat
def decF (s : ByteArray) : Nat → DSt → Except (Nat × Nat) (List Nat)
  | 0, u => .ok u.out
  | f + 1, u =>
    if s.size ≤ u.a then .ok u.out else
    match rdN s u.a u.bias with
    | .error e => .error e
    | .ok (i, t) =>
      let p := u.place + i
      let h := u.out.length + 1
      let n := u.n + p / h
      if rightB (n : Int) = false then .error (16, t - 1) else if 256 < h then .error (15, t - 1) else
      decF s f ⟨t, n, p % h + 1, adaptN i h u.first, false, insL u.out (p % h) n⟩
section
variable {s : ByteArray} {f i t : Nat} {u : DSt}
theorem dec_end (h : s.size ≤ u.a) : decF s f u = .ok u.out := by
  cases f with
  | zero => rfl
  | succ f => rw [decF, if_pos h]
theorem dec_err {e : Nat × Nat} (h : u.a < s.size) (h2 : rdN s u.a u.bias = .error e) : decF s (f + 1) u = .error e := by
  rw [decF, if_neg (by omega), h2]
theorem dec_bad (h : u.a < s.size) (h2 : rdN s u.a u.bias = .ok (i, t)) (h3 : rightB ((u.n + (u.place + i) / (u.out.length + 1) : Nat) : Int) = false) : decF s (f + 1) u = .error (16, t - 1) := by
  rw [decF, if_neg (by omega), h2]; dsimp only; rw [if_pos h3]
theorem dec_many (h : u.a < s.size) (h2 : rdN s u.a u.bias = .ok (i, t)) (h3 : rightB ((u.n + (u.place + i) / (u.out.length + 1) : Nat) : Int) = true) (h4 : 256 < u.out.length + 1) : decF s (f + 1) u = .error (15, t - 1) := by
  rw [decF, if_neg (by omega), h2]; dsimp only; rw [if_neg (by rw [h3]; decide), if_pos h4]
theorem dec_next (h : u.a < s.size) (h2 : rdN s u.a u.bias = .ok (i, t)) (h3 : rightB ((u.n + (u.place + i) / (u.out.length + 1) : Nat) : Int) = true) (h4 : ¬ 256 < u.out.length + 1) : decF s (f + 1) u =
    decF s f ⟨t, u.n + (u.place + i) / (u.out.length + 1), (u.place + i) % (u.out.length + 1) + 1, adaptN i (u.out.length + 1) u.first, false, insL u.out ((u.place + i) % (u.out.length + 1)) (u.n + (u.place + i) / (u.out.length + 1))⟩ := by
  rw [decF, if_neg (by omega), h2]; dsimp only; rw [if_neg (by rw [h3]; decide), if_neg h4]
end
/-- The last mark's place; 0: none. -/
def lastK (s : ByteArray) : Nat → Nat
  | 0 => 0
  | k + 1 => if byteAt s k = 45 then k else lastK s k
theorem lastK_lt (s : ByteArray) : ∀ k, lastK s k ≤ k := by
  intro k
  induction k with
  | zero => exact Nat.le_refl _
  | succ k ih => unfold lastK; split <;> omega
/-- The first byte from 128 on, among so many from a place on. -/
def highF (s : ByteArray) : Nat → Nat → Option Nat
  | 0, _ => none
  | r + 1, k => if 128 ≤ (byteAt s k).toNat then some k else highF s r (k + 1)
theorem high_hit {s : ByteArray} {r k : Nat} (h : 128 ≤ (byteAt s k).toNat) : highF s (r + 1) k = some k := by rw [highF, if_pos h]
theorem high_next {s : ByteArray} {r k : Nat} (h : ¬ 128 ≤ (byteAt s k).toNat) : highF s (r + 1) k = highF s r (k + 1) := by rw [highF, if_neg h]
def headN (s : ByteArray) (l : Nat) : List Nat := (List.range l).map fun j => (byteAt s j).toNat
theorem headN_succ (s : ByteArray) (l : Nat) : headN s (l + 1) = headN s l ++ [(byteAt s l).toNat] := by unfold headN; rw [List.range_succ, List.map_append]; rfl
theorem headN_len (s : ByteArray) (l : Nat) : (headN s l).length = l := by unfold headN; simp
/-- What comes behind the marked head. -/
def decD (s : ByteArray) (l : Nat) : Except (Nat × Nat) (List Nat) :=
  if 256 < l then .error (15, if 0 < l then l + 1 else 0) else decF s s.size ⟨if 0 < l then l + 1 else 0, 128, 0, 72, true, headN s l⟩
def decE (s : ByteArray) : Except (Nat × Nat) (List Nat) :=
  if 1024 < s.size then .error (14, 1024) else
  match highF s (lastK s s.size) 0 with
  | some j => .error (11, j)
  | none => decD s (lastK s s.size)
end Go.Proofs.Ytakcfgmibijdnaa

/- puny.Adapt, threshold, digit. -/
namespace Go.Proofs.Ytakcfgmibijdnaa
open Go.RowKit

theorem adaptZ_neg {delta count : Int} {first : Bool} (h : delta < 0 ∨ count < 1) : adaptZ delta count first = 0 := by unfold adaptZ; rw [if_pos h]
theorem adaptZ_nat (d c : Nat) (first : Bool) (h : 1 ≤ c) : adaptZ (d : Int) (c : Int) first = (adaptN d c first : Int) := by
  unfold adaptZ; rw [if_neg (by omega)]; simp
theorem wrap64_inA (x : Int) (h1 : -9223372036854775808 ≤ x) (h2 : x ≤ 9223372036854775807) : wrap64 x = x := by unfold wrap64; omega
/-- What the loop begins with, as the walk reckons it. -/
theorem adapt0_int (d c : Nat) (first : Bool) (h : d ≤ 1099511627776) : (if first then wrap64 ((d : Int) / 700 + (d : Int) / 700 / (c : Int)) else wrap64 ((d : Int) / 2 + (d : Int) / 2 / (c : Int))) = ((adapt0 d c first : Nat) : Int) := by
  have h1 : ∀ x : Nat, x / c ≤ x := fun x => Nat.div_le_self _ _
  have e : ∀ x : Nat, ((x / c : Nat) : Int) = (x : Int) / (c : Int) := fun x => by simp
  cases first
  · have := h1 (d / 2)
    have e2 := e (d / 2)
    have e3 : ((d / 2 : Nat) : Int) = (d : Int) / 2 := by simp
    rw [e3] at e2
    simp only [adapt0, Bool.false_eq_true, if_false]
    have e4 : (0 : Int) ≤ (d : Int) / 2 / (c : Int) := by rw [← e2]; exact Int.natCast_nonneg _
    have e5 : (d : Int) / 2 / (c : Int) ≤ (d : Int) / 2 := by rw [← e2, ← e3]; exact Int.ofNat_le.2 (h1 _)
    generalize (d : Int) / 2 / (c : Int) = z at *
    rw [wrap64_inA _ (by omega) (by omega)]
    rw [Int.natCast_add, e2, e3]
  · have := h1 (d / 700)
    have e2 := e (d / 700)
    have e3 : ((d / 700 : Nat) : Int) = (d : Int) / 700 := by simp
    rw [e3] at e2
    simp only [adapt0, if_true]
    have e4 : (0 : Int) ≤ (d : Int) / 700 / (c : Int) := by rw [← e2]; exact Int.natCast_nonneg _
    have e5 : (d : Int) / 700 / (c : Int) ≤ (d : Int) / 700 := by rw [← e2, ← e3]; exact Int.ofNat_le.2 (h1 _)
    generalize (d : Int) / 700 / (c : Int) = z at *
    rw [wrap64_inA _ (by omega) (by omega)]
    rw [Int.natCast_add, e2, e3]
set_option maxHeartbeats 1600000 in
set_option maxRecDepth 100000 in
theorem puny_Adapt (delta count : Int) (first : Bool) (w : World) (h1 : delta ≤ 1099511627776) (h2 : count ≤ 1099511627776) :
    Calls Try.prog 17 #[.int .i64 delta, .int .i64 count, .bool first] w fun e w' => e = .returned (.int .i64 (adaptZ delta count first)) ∧ w = w' := by
  by_cases hd : delta < 0
  · have HV := Lib.hid (adaptZ_neg (first := first) (count := count) (.inl hd))
    go_enter Try.func17, Try.ntmps17
    go_wp2_with fail
    go_ret
    exact ⟨ret_i64 HV.out.symm, rfl⟩
  by_cases hc : count < 1
  · have HV := Lib.hid (adaptZ_neg (first := first) (delta := delta) (.inr hc))
    go_enter Try.func17, Try.ntmps17
    go_wp2_with fail
    go_ret
    exact ⟨ret_i64 HV.out.symm, rfl⟩
  obtain ⟨d, rfl⟩ : ∃ d : Nat, delta = d := ⟨delta.toNat, by omega⟩
  obtain ⟨c, rfl⟩ : ∃ c : Nat, count = c := ⟨count.toNat, by omega⟩
  have hc1 : 1 ≤ c := by omega
  rw [adaptZ_nat d c first hc1]
  have hz := adapt0_le d c first
  have hst := adapt0_int d c first (by omega)
  have hR : adaptL (adapt0 d c first) (adapt0 d c first) 0 = adaptN d c first := rfl
  have HR := Lib.hid hR
  clear hR hd hc
  generalize adaptN d c first = R at *
  generalize adapt0 d c first = D at *
  cases first
  all_goals
    simp only [Bool.false_eq_true, if_false, if_true, reduceIte] at hst
    have hs := congrArg (Value.int .i64) hst
    have HST := Lib.hid hs
    clear hst hs
    go_enter Try.func17, Try.ntmps17
    go_wp2_with fail
    go_loop [0, 7] (fun x y => ∃ f e k : Nat, x = .int .i64 e ∧ y = .int .i64 k ∧ e ≤ f ∧ k + e ≤ D ∧ adaptL f e k = R) (fun x _ => (intOf x).toNat)
    case atStart => exact ⟨D, D, 0, HST.out, rfl, Nat.le_refl _, by omega, HR.out⟩
    case round =>
      obtain ⟨f, e, k, rfl, rfl, hef, hke, hg⟩ := hrel
      by_cases h5 : 455 < e
      · obtain ⟨f', rfl⟩ : ∃ f', f = f' + 1 := ⟨f - 1, by omega⟩
        rw [adaptL_go h5] at hg
        have HG := Lib.hid hg
        have h5I : (e : Int) > 455 := by omega
        clear hg
        go_wp2_with fail
        go_round
        case rel => exact ⟨f', e / 35, k + 36, by simp, by simp, by omega, by omega, HG.out⟩
        case measure => simp [intOf]; omega
      · rw [adaptL_end h5] at hg
        have h5I : ¬ (e : Int) > 455 := by omega
        have hq : 36 * e / (e + 38) ≤ 36 * e := Nat.div_le_self _ _
        have hqc : ((36 * e / (e + 38) : Nat) : Int) = 36 * (e : Int) / ((e : Int) + 38) := by simp
        have HG := Lib.hid hg
        generalize 36 * e / (e + 38) = q at *
        have HQ := Lib.hid hqc
        clear hg hqc
        go_wp2_with fail
        rw [← HQ.out]
        go_wp2_with fail
        go_ret
        exact ⟨ret_i64 (by rw [wrap64_inA _ (by omega) (by omega), ← HG.out]; simp), rfl⟩
end Go.Proofs.Ytakcfgmibijdnaa

/- strings.Builder: copyCheck, WriteByte, WriteString (over a cut whose copyCheck holds a branch that no builder of the call's own reaches), String. -/
namespace Go.Proofs.Ytakcfgmibijdnaa
open Go.RowKit

/-- A builder in block b, whose bytes lie in a row of the call's own, from B on. -/
def Bld (w : World) (B b : Nat) (l : List UInt8) : Prop :=
  b < B ∧ ∃ p v, (p = .pointer none ∨ p = .pointer (some ⟨b, 0, none⟩)) ∧ w.heap[b]? = some (.cells #[p, v] 38 (0, 0)) ∧ w.ownsRow B 5 1 v l.length (Lib.byteCells l)
/-- All blocks below B, but b, stand as they stood. -/
structure ButB (B b : Nat) (w w' : World) : Prop where
  os : w'.os = w.os
  tape : w'.tape = w.tape
  output : w'.output = w.output
  size : w.heap.size ≤ w'.heap.size
  block : ∀ k, k < B → k ≠ b → w'.heap[k]? = w.heap[k]?
theorem ButB.refl (B b : Nat) (w : World) : ButB B b w w := ⟨rfl, rfl, rfl, Nat.le_refl _, fun _ _ _ => rfl⟩
theorem ButB.trans {B b : Nat} {w w1 w2 : World} (h : ButB B b w w1) (k : ButB B b w1 w2) : ButB B b w w2 :=
  ⟨k.os.trans h.os, k.tape.trans h.tape, k.output.trans h.output, Nat.le_trans h.size k.size, fun i hi hn => (k.block i hi hn).trans (h.block i hi hn)⟩
theorem ButB.of_below {B b : Nat} {w w' : World} (h : Below B w w') : ButB B b w w' := ⟨h.os, h.tape, h.output, h.size, fun k hk _ => h.block k hk⟩
theorem ButB.setCell {B b : Nat} {w w' : World} (h : ButB B b w w') (j : Nat) (u : Value) : ButB B b w (w'.setCell ⟨b, j, none⟩ u) :=
  ⟨h.os, h.tape, h.output, by simpa [World.setCell] using h.size, fun k hk hn => (Below.heap_setCell w' ⟨b, j, none⟩ u k (fun e => hn e)).trans (h.block k hk hn)⟩
theorem ButB.below {B b B0 : Nat} {w w' : World} (h : ButB B b w w') (h1 : B0 ≤ b) (h2 : B0 ≤ B) : Below B0 w w' := ⟨h.os, h.tape, h.output, h.size, fun k hk => h.block k (by omega) (by omega)⟩
theorem BytesAt.but {w w' : World} {g B b : Nat} {l : List UInt8} (h : BytesAt w g l) (hb : ButB B b w w') (h1 : g < B) (h2 : g ≠ b) : BytesAt w' g l := by
  obtain ⟨e, rest, lo, hi, hlo, hh⟩ := h
  exact ⟨e, rest, lo, hi, hlo, (hb.block g h1 h2).trans hh⟩

theorem bld_size : (Try.prog.info? 38).map (·.size) = some 2 := by kernel_rfl
theorem bld_lies : liesAt Try.prog Try.prog.depth 38 (2 / Try.prog.cellsOf 38) 0 38 1 = true := by kernel_rfl
theorem bld_byte : (Try.prog.info? 5).map (fun i => (i.zero, i.size, i.bytes)) = some (some (.int .u8 0), 1, 1) := by kernel_rfl

theorem Bld.new {w' : World} {B b : Nat} {u : Obj} (hu : u = .cells #[.pointer none, .slice none 0 0] 38) (h : w'.heap[b]? = some u) (hb : b < B) : Bld w' B b [] :=
  ⟨hb, _, _, .inl rfl, by rw [h, hu], World.ownsRow_nil _ _ _ _⟩
theorem Bld.below {w w' : World} {B b : Nat} {l : List UInt8} (h : Bld w B b l) (hb : Below w.heap.size w w') : Bld w' B b l := by
  obtain ⟨h1, p, v, h2, h3, h4⟩ := h
  exact ⟨h1, p, v, h2, (hb.block b (lt_of_block h3)).trans h3, ownsRow_below h4 hb⟩
theorem Bld.lt {w : World} {B b : Nat} {l : List UInt8} (h : Bld w B b l) : b < w.heap.size := by
  obtain ⟨_, p, v, _, h3, _⟩ := h
  exact lt_of_block h3

set_option maxHeartbeats 1000000 in
set_option maxRecDepth 100000 in
theorem bld_check_used (b : Nat) (w : World) (h0 : w.cell? ⟨b, 0, none⟩ = some (.pointer (some ⟨b, 0, none⟩))) :
    Calls Try.prog 24 #[.pointer (some ⟨b, 0, none⟩)] w fun e w' => e = .returned (.tuple #[]) ∧ w' = w := by
  obtain ⟨j, hj, _⟩ := Option.map_eq_some_iff.1 bld_size
  have hnp := Lib.run_neq_ptr_same (P := Try.prog) w ⟨b, 0, none⟩ Try.underlying36 hj
  go_enter Try.func24, Try.ntmps24
  go_wp2
  go_end0
  exact ⟨rfl, rfl⟩
set_option maxHeartbeats 1000000 in
set_option maxRecDepth 100000 in
theorem bld_check_fresh (b : Nat) (w : World) (h0 : w.cell? ⟨b, 0, none⟩ = some (.pointer none)) (hsh : w.shape? b = some (38, 2)) (hfz : w.frozen? ⟨b, 0, none⟩ = false) :
    Calls Try.prog 24 #[.pointer (some ⟨b, 0, none⟩)] w fun e w' => e = .returned (.tuple #[]) ∧ w' = w.setCell ⟨b, 0, none⟩ (.pointer (some ⟨b, 0, none⟩)) := by
  obtain ⟨j, hj, hjs⟩ := Option.map_eq_some_iff.1 bld_size
  have k1 := Lib.run_to_unsafe (P := Try.prog) w ⟨b, 0, none⟩ Try.underlying36 Try.underlying69 hj (by rw [hjs]; decide) hsh (Nat.zero_lt_succ 1)
  have k2 : (callFunc 35 #[.pointer (some ⟨b, 0, none⟩)]).run Try.prog w = .ok (.value (.pointer (some ⟨b, 0, none⟩))) w := by
    rw [run_callFunc_extern Try.func35 (by kernel_rfl) (by kernel_rfl) (by kernel_rfl) (e := Extern.AbiNoEscape.same) (by kernel_rfl)]
    rw [Lib.run_noEscape]
    rfl
  have k3 := Lib.run_from_unsafe (P := Try.prog) w ⟨b, 0, none⟩ Try.underlying69 Try.underlying36 hj hsh bld_lies
  go_enter Try.func24, Try.ntmps24
  go_wp2
  go_end0
  exact ⟨rfl, rfl⟩
theorem bld_check (B b : Nat) (l : List UInt8) (w : World) (h : Bld w B b l) :
    Calls Try.prog 24 #[.pointer (some ⟨b, 0, none⟩)] w fun e w' => e = .returned (.tuple #[]) ∧ ButB B b w w' ∧ ∃ v, w'.heap[b]? = some (.cells #[.pointer (some ⟨b, 0, none⟩), v] 38 (0, 0)) ∧ w'.ownsRow B 5 1 v l.length (Lib.byteCells l) := by
  obtain ⟨h1, p, v, h2, h3, h4⟩ := h
  have c0 : w.cell? ⟨b, 0, none⟩ = some p := by rw [cell_of_row w b 0 _ _ _ h3]; rfl
  rcases h2 with rfl | rfl
  · refine (bld_check_fresh b w c0 (by simp [World.shape?, h3]) (Lib.frozen_of_heap h3 0)).mono ?_
    rintro e w' ⟨rfl, rfl⟩
    refine ⟨rfl, (ButB.refl B b w).setCell 0 _, v, by simp [World.setCell, Array.getElem?_modify, h3], ?_⟩
    refine h4.kept (row := some b) ⟨rfl, rfl, rfl, by simp [World.setCell], fun k _ hk => Below.heap_setCell _ _ _ _ (fun e => hk (by simp [e]))⟩ (.inr fun e => ?_)
    have := (h4.lt b e).1
    omega
  · refine (bld_check_used b w c0).mono ?_
    rintro e w' ⟨rfl, rfl⟩
    exact ⟨rfl, ButB.refl _ _ _, v, h3, h4⟩
theorem bld_put {w : World} {B b : Nat} {p v : Value} {n : Nat} {xs : List Value} {l : List UInt8} (hb : b < B) (hp : p = .pointer (some ⟨b, 0, none⟩)) {u : Value} (h3 : w.heap[b]? = some (.cells #[p, u] 38 (0, 0))) (h4 : w.ownsRow B 5 1 v n xs) (hn : n = l.length) (hx : xs = Lib.byteCells l) :
    Bld (w.setCell ⟨b, 1, none⟩ v) B b l := by
  subst hn hx
  refine ⟨hb, p, v, .inr hp, by simp [World.setCell, Array.getElem?_modify, h3], ?_⟩
  refine h4.kept (row := some b) ⟨rfl, rfl, rfl, by simp [World.setCell], fun k _ hk => Below.heap_setCell _ _ _ _ (fun e => hk (by simp [e]))⟩ (.inr fun e => ?_)
  have := (h4.lt b e).1
  omega

set_option maxHeartbeats 2000000 in
set_option maxRecDepth 100000 in
theorem bld_WriteByte (B b : Nat) (l : List UInt8) (c : UInt8) (w : World) (h : Bld w B b l) (hlen : l.length ≤ 1073741824) (hBw : B ≤ w.heap.size) :
    Calls Try.prog 11 #[.pointer (some ⟨b, 0, none⟩), .int .u8 (c.toNat : Int)] w fun e w' => e = .returned .nilIface ∧ Bld w' B b (l ++ [c]) ∧ ButB B b w w' := by
  obtain ⟨i0, hi, hz0, hz1, hz2⟩ := info_parts bld_byte
  have hbB := h.1
  go_enter Try.func11, Try.ntmps11
  go_wp2_with fail
  refine (bld_check B b l _ h).mono ?_
  rintro e w1 ⟨rfl, hb1, v, hbk, hown⟩
  have c0 : w1.cell? ⟨b, 0, none⟩ = some (.pointer (some ⟨b, 0, none⟩)) := by rw [Lib.cell_of_heap hbk]; rfl
  have c1 : w1.cell? ⟨b, 1, none⟩ = some v := by rw [Lib.cell_of_heap hbk]; rfl
  have hsz1 := hb1.size
  go_wp2_with (at_builtin; refine wpList_append_own _ rfl _ _ 22 rfl B 5 i0 (.int .u8 0) 1 1 Try.underlying22 hi hz0 hz1 hz2 rfl (by decide) _ _ _ rfl (hown.alloc _) ⟨w1.heap.size, 0, none⟩ 1 1 [.int .u8 (c.toNat : Int)] rfl rfl ?c1 ?c2 ?c3 ?c4 ?c5 ?_)
  case c1 =>
    intro j u hj
    match j, hj with
    | 0, hj => simp at hj; subst hj; simp [Addr.add]
  case c2 => intro u hu; simp at hu; subst hu; rfl
  case c3 => unfold maxLen; omega
  case c4 => omega
  case c5 => simp; omega
  intro v' w2 hown' hgrow _
  have hlt : b < w1.heap.size := lt_of_block hbk
  have hne : v.ownBlock ≠ some b := fun e => by have := (hown.lt b e).1; omega
  have hb2 : w2.heap[b]? = some (.cells #[.pointer (some ⟨b, 0, none⟩), v] 38 (0, 0)) := by
    rw [hgrow.block b (by simp; omega) (fun e => hne e.symm), Lib.alloc_old w1 _ b hlt]
    exact hbk
  have d0 : w2.cell? ⟨b, 0, none⟩ = some (.pointer (some ⟨b, 0, none⟩)) := by rw [Lib.cell_of_heap hb2]; rfl
  have d1 : w2.cell? ⟨b, 1, none⟩ = some v := by rw [Lib.cell_of_heap hb2]; rfl
  have f1 : w2.frozen? ⟨b, 1, none⟩ = false := Lib.frozen_of_heap hb2 1
  obtain ⟨g, cap, rfl⟩ : ∃ g cap, v' = .slice (some ⟨g, 0, none⟩) (l.length + 1) cap := by
    rcases hown'.2 with ⟨_, h0⟩ | ⟨g, cap, cur, hv, _⟩
    · omega
    · exact ⟨g, cap, hv⟩
  have hb12 : Below B w1 w2 := ((Below.refl B w1).alloc (by omega) _).grown hgrow (by simp; omega) (fun k hk => (hown.lt k hk).1)
  have hbe := ((hb1.trans (ButB.of_below hb12)).setCell 1 (.slice (some ⟨g, 0, none⟩) (l.length + 1) cap))
  have hput := bld_put (l := l ++ [c]) hbB rfl hb2 hown' (by simp) (by unfold Lib.byteCells; simp)
  clear hb12 hown' hown hgrow hb1
  go_wp2
  go_ret
  exact ⟨rfl, hput, hbe⟩


theorem bld_String (B b : Nat) (l : List UInt8) (w : World) (h : Bld w B b l) (hBw : B ≤ w.heap.size) :
    Calls Try.prog 18 #[.pointer (some ⟨b, 0, none⟩)] w fun e w' => e = .returned (.string ⟨l.toArray⟩) ∧ Below b w w' := by
  obtain ⟨h1, p, v, h2, h3, h4⟩ := h
  have hne : v.ownBlock ≠ some b := fun e => by have := (h4.lt b e).1; omega
  have hw : w.ownsRow b 5 1 v (Lib.byteCells l).length (Lib.byteCells l) := by rw [Lib.byteCells_length]; exact ownsRow_base h4 (Nat.le_of_lt h1)
  have hi : Lib.IsBuilder 38 5 b b (Lib.byteCells l) w := by
    rcases h2 with rfl | rfl
    · exact .inl ⟨Nat.le_refl _, v, h3, hw, hne⟩
    · exact .inr ⟨Nat.le_refl _, v, h3, hw, hne⟩
  exact Try.Builder_String_any b b l w hi (by omega)
end Go.Proofs.Ytakcfgmibijdnaa
