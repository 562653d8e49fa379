/- The reference's digit and Number: they are what fold.number tells. -/
import Derived.Test.YtibhohpamnpkcaaGreatDoorRouteOrderM2
import Derived.Test.YtibhohpamnpkcaaGreatDoorRouteOrderM1
import Derived.Deep.QuietTactic
import Derived.BigQuiet
import Derived.Test.YtibhohpamnpkcaaGreatDoorShelf
import Derived.Lib.Builder
import Derived.Lib.AppendStr
import Derived.Lib.UnsafeStr
import Derived.Laws.Externs

namespace Go.Proofs.YtibhohpamnpkcaaGreatDoor
open Go.RowKit

/-- The digits' list of the reference. -/
def hexs : ByteArray := ⟨#[48, 49, 50, 51, 52, 53, 54, 55, 56, 57, 97, 98, 99, 100, 101, 102]⟩
theorem hexs_find (n : Nat) (hn : n < 256) : (∀ k, k < 16 → ((hexs.data.toList.getD k 0).toNat = smallN n ↔ valN n = k)) ∧ (valN n < 16 ∨ valN n = 99) := by
  have : ∀ n : Fin 256, (∀ k : Fin 16, ((hexs.data.toList.getD k.1 0).toNat = smallN n.1 ↔ valN n.1 = k.1)) ∧ (valN n.1 < 16 ∨ valN n.1 = 99) := by decide +kernel
  have h := this ⟨n, hn⟩
  exact ⟨fun k hk => h.1 ⟨k, hk⟩, h.2⟩

set_option maxHeartbeats 1600000 in
set_option maxRecDepth 100000 in
theorem ref_digit (n : Nat) (hn : n < 256) (w : World) : Calls Tryz.prog 113 #[.int .u8 (n : Int)] w fun e w' => e = .returned (.int .u64 (valN n : Nat)) ∧ ∃ q, w.drewN q = w' := by
  obtain ⟨hf, hv⟩ := hexs_find n hn
  have HF := Lib.hid hf
  clear hf
  go_enter Tryz.func113, Tryz.ntmps113
  go_wp2_with fail
  go_loopw [4] (fun i wr => ∃ k q : Nat, k ≤ 16 ∧ i = .int .i64 k ∧ (∀ j, j < k → valN n ≠ j) ∧ w.drewN q = wr) (fun i _ => 16 - (intOf i).toNat)
  case atStart => exact ⟨0, 0, by omega, rfl, fun j hj => by omega, rfl⟩
  case round =>
    obtain ⟨k, q, hk, rfl, hall, hwr⟩ := hrel
    have HW := Lib.hid hwr
    have HA := Lib.hid hall
    clear hall hwr
    by_cases hlt : k < 16
    · have hcond := HF.out k hlt
      have i1 : (k : Int) < 16 := by omega
      have hbk : (hexs.data.toList.getD k 0) = (⟨#[48, 49, 50, 51, 52, 53, 54, 55, 56, 57, 97, 98, 99, 100, 101, 102]⟩ : ByteArray)[k]'hlt := by
        simp [hexs, List.getD, hlt]; rfl
      rw [hbk] at hcond
      clear hbk
      by_cases hc : valN n = k
      · have e1 := hcond.2 hc
        have e2 : ((((⟨#[48, 49, 50, 51, 52, 53, 54, 55, 56, 57, 97, 98, 99, 100, 101, 102]⟩ : ByteArray)[k]'hlt).toNat : Int) == (smallN n : Int)) = true := by
          rw [beq_iff_eq]; exact_mod_cast e1
        have HC := Lib.hid hc
        clear hc hcond e1
        go_wp2_with fail
        go_quiet ((go_at_call 105; exact Calls.quiet_of_same ((ref_Small n hn _).mono fun _ _ ⟨a, b⟩ => ⟨a, b.symm⟩)))
        go_wp2_with fail
        go_ret
        exact ⟨ret_u64 (by rw [HC.out]), _, by rw [← HW.out, World.drewN_drewN]⟩
      · have e2 : ((((⟨#[48, 49, 50, 51, 52, 53, 54, 55, 56, 57, 97, 98, 99, 100, 101, 102]⟩ : ByteArray)[k]'hlt).toNat : Int) == (smallN n : Int)) = false := by
          rw [beq_eq_false_iff_ne]
          intro h
          exact hc (hcond.1 (by exact_mod_cast h))
        have HC := Lib.hid hc
        clear hc hcond
        go_wp2_with fail
        go_quiet ((go_at_call 105; exact Calls.quiet_of_same ((ref_Small n hn _).mono fun _ _ ⟨a, b⟩ => ⟨a, b.symm⟩)))
        go_wp2_with fail
        go_roundw
        case rel => exact ⟨k + 1, _, by omega, by go_num, fun j hj => by
          by_cases hjk : j = k
          · subst hjk; exact HC.out
          · exact HA.out j (by omega), by rw [← HW.out, World.drewN_drewN]⟩
        case measure => simp [intOf]; omega
    · obtain rfl : k = 16 := by omega
      have h99 : valN n = 99 := by
        rcases hv with h | h
        · exact absurd rfl (HA.out _ h)
        · exact h
      have H99 := Lib.hid h99
      clear h99 hv
      go_wp2_with fail
      go_ret
      exact ⟨ret_u64 (by rw [H99.out]; rfl), _, HW.out⟩

theorem numRes_none {s : ByteArray} (base most : Nat) (h0 : s.size = 0) : numRes s base most = (0, 10, 0) := by rw [numRes, if_pos h0]
theorem numRes_bad {s : ByteArray} {base i : Nat} (most : Nat) (hi : i < s.size) (h : ∀ j, j < i → valN (byteAt s j).toNat < base) (hb : base ≤ valN (byteAt s i).toNat) : numRes s base most = (0, 11, i) := by
  rw [numRes, if_neg (by omega), firstBad_some hi h hb]
theorem numRes_over {s : ByteArray} {base most : Nat} (h0 : 0 < s.size) (h : ∀ j, j < s.size → valN (byteAt s j).toNat < base) (ho : 18446744073709551616 ≤ numTo base s s.size ∨ most < numTo base s s.size) : numRes s base most = (0, 16, 0) := by
  rw [numRes, if_neg (by omega), firstBad_none h]; exact if_pos ho
theorem numRes_good {s : ByteArray} {base most : Nat} (h0 : 0 < s.size) (h : ∀ j, j < s.size → valN (byteAt s j).toNat < base) (ho : ¬ (18446744073709551616 ≤ numTo base s s.size ∨ most < numTo base s s.size)) : numRes s base most = (numTo base s s.size, 0, 0) := by
  rw [numRes, if_neg (by omega), firstBad_none h]; exact if_neg ho

def RefNum (s : ByteArray) (base most : Nat) (w : World) (e : Ending) (w' : World) : Prop :=
  e = .returned (.tuple #[.int .u64 ((numRes s base most).1 : Int), .int .i64 ((numRes s base most).2.1 : Int), .int .i64 ((numRes s base most).2.2 : Int)]) ∧ ∃ q, w.drewN q = w'
theorem RefNum.mk' {s : ByteArray} {base most n k i : Nat} {w w' : World} (h : numRes s base most = (n, k, i)) {a b c : Int} (ha : a = n) (hb : b = k) (hc : c = i) (hw : ∃ q, w.drewN q = w') :
    RefNum s base most w (.returned (.tuple #[.int .u64 a, .int .i64 b, .int .i64 c])) w' := by
  refine ⟨?_, hw⟩
  rw [h, ha, hb, hc]

/-- The state of the reference's loop. -/
def RefSt (base : Nat) (s : ByteArray) (k n : Nat) (o : Bool) : Prop := NumSt base s k n o ∧ (o = true → n = 0)
theorem RefSt.over {base : Nat} {s : ByteArray} {k n : Nat} {o : Bool} (hb : 1 ≤ base) (h : RefSt base s k n o) (hd : valN (byteAt s k).toNat < base) (ho : o = true ∨ 18446744073709551615 < n * base + valN (byteAt s k).toNat) :
    RefSt base s (k + 1) 0 true := by
  obtain ⟨⟨e1, e2, e3⟩, e4⟩ := h
  have hle : numTo base s k ≤ numTo base s (k + 1) := numTo_le base s hb (Nat.le_succ k)
  have hbig : 18446744073709551616 ≤ numTo base s (k + 1) := by
    rcases ho with ho | ho
    · rw [ho] at e1
      have : 18446744073709551616 ≤ numTo base s k := by simpa using e1.symm
      omega
    · by_cases hx : 18446744073709551616 ≤ numTo base s k
      · omega
      · have hn := e2 (by omega)
        rw [numTo, ← hn]
        omega
  refine ⟨⟨by rw [decide_eq_true hbig], fun h => by omega, fun j hj => ?_⟩, fun _ => rfl⟩
  by_cases hjk : j = k
  · subst hjk; exact hd
  · exact e3 j (by omega)
theorem RefSt.fits {base : Nat} {s : ByteArray} {k n : Nat} (h : RefSt base s k n false) (hd : valN (byteAt s k).toNat < base) (ho : n * base + valN (byteAt s k).toNat ≤ 18446744073709551615) :
    RefSt base s (k + 1) (n * base + valN (byteAt s k).toNat) false := by
  obtain ⟨⟨e1, e2, e3⟩, e4⟩ := h
  have hx : ¬ 18446744073709551616 ≤ numTo base s k := by simpa using e1.symm
  have hn := e2 (by omega)
  have he : numTo base s (k + 1) = n * base + valN (byteAt s k).toNat := by rw [numTo, hn]
  refine ⟨⟨?_, fun _ => he.symm, fun j hj => ?_⟩, fun h => by cases h⟩
  · rw [he, decide_eq_false (by omega)]
  · by_cases hjk : j = k
    · subst hjk; exact hd
    · exact e3 j (by omega)

theorem ref_over {m base d : Nat} (hb : 2 ≤ base) (h : 18446744073709551615 < m * base + d) : (18446744073709551615 - (d : Int)) / (base : Int) < (m : Int) := by
  refine Int.ediv_lt_of_lt_mul (by omega) ?_
  have : (18446744073709551615 : Int) < ((m * base + d : Nat) : Int) := by omega
  rw [Int.natCast_add, Int.natCast_mul] at this
  omega
theorem ref_fits2 {m base d : Nat} (h : m * base + d ≤ 18446744073709551615) : (m : Int) * (base : Int) + (d : Int) ≤ 18446744073709551615 := by
  have : ((m * base + d : Nat) : Int) ≤ 18446744073709551615 := by omega
  rw [Int.natCast_add, Int.natCast_mul] at this
  exact this
theorem ref_fits {m base d : Nat} (hb : 2 ≤ base) (h : m * base + d ≤ 18446744073709551615) : (m : Int) ≤ (18446744073709551615 - (d : Int)) / (base : Int) := by
  refine Int.le_ediv_of_mul_le (by omega) ?_
  have := ref_fits2 h
  omega

set_option maxHeartbeats 1600000 in
set_option maxRecDepth 100000 in
theorem ref_Number (s : ByteArray) (base most : Nat) (w : World) (hs : s.size ≤ 140737488351232) (hb : 2 ≤ base) (hb2 : base ≤ 16) (hm : most < 18446744073709551616) :
    Calls Tryz.prog 83 #[.string s, .int .u64 (base : Int), .int .u64 (most : Int)] w (RefNum s base most w) := by
  by_cases h0 : s.size = 0
  · have hr := Lib.hid (numRes_none base most h0)
    have hz : ((s.size : Int) == 0) = true := by rw [h0]; rfl
    clear h0
    go_enter Tryz.func83, Tryz.ntmps83
    go_wp2_with fail
    go_ret3
    exact RefNum.mk' hr.out rfl rfl rfl ⟨0, rfl⟩
  · have hz : ((s.size : Int) == 0) = false := by rw [beq_eq_false_iff_ne]; omega
    go_enter Tryz.func83, Tryz.ntmps83
    go_wp2_with fail
    go_loopw [9, 10, 11] (fun n o i wr => ∃ (k m : Nat) (ob : Bool), k ≤ s.size ∧ i = .int .i64 k ∧ n = .int .u64 m ∧ o = .bool ob ∧ m < 18446744073709551616 ∧ RefSt base s k m ob ∧ ∃ q, w.drewN q = wr)
      (fun _ _ i _ => s.size - (intOf i).toNat)
    case atStart => exact ⟨0, 0, false, Nat.zero_le _, rfl, rfl, rfl, by omega, ⟨NumSt.zero _ _, fun h => by cases h⟩, 0, rfl⟩
    case round =>
      obtain ⟨k, m, ob, hk, rfl, rfl, rfl, hm', hst, hwr⟩ := hrel
      have HST := Lib.hid hst
      have HW := Lib.hid hwr
      clear hst hwr hz
      by_cases hlt : k < s.size
      · have hbk : s[k] = byteAt s k := by simp [byteAt, List.getD, hlt]; rfl
        have hby : (byteAt s k).toNat < 256 := (byteAt s k).toNat_lt
        have HBK := Lib.hid hbk
        clear hbk
        go_wp2_with fail
        rw [HBK.out]
        refine (ref_digit _ hby _).mono ?_
        rintro e w2 ⟨rfl, q2, hq2⟩
        have HW2 : Hid (∃ q, w.drewN q = w2) := Lib.hid (by obtain ⟨q, hq⟩ := HW.out; exact ⟨q + q2, by rw [← hq2, ← hq, World.drewN_drewN]⟩)
        clear hq2 HW
        generalize hdv : valN (byteAt s k).toNat = d
        have HDV := Lib.hid hdv
        clear hdv
        by_cases hd : base ≤ d
        · go_wp2_with fail
          go_ret3
          exact RefNum.mk' (numRes_bad most hlt HST.out.1.2.2 (by rw [HDV.out]; exact hd)) rfl rfl rfl HW2.out
        · have hd' : d < base := by omega
          have hq0 : (0 : Int) ≤ (18446744073709551615 - (d : Int)) / (base : Int) := Int.ediv_nonneg (by omega) (by omega)
          have hq1 : (18446744073709551615 - (d : Int)) / (base : Int) ≤ 18446744073709551615 - (d : Int) := Int.ediv_le_self _ (by omega)
          cases ob
          · by_cases ho : 18446744073709551615 < m * base + d
            · have t1 : (18446744073709551615 - (d : Int)) / (base : Int) < (m : Int) := ref_over hb ho
              have hn := Lib.hid (RefSt.over (by omega) HST.out (by rw [HDV.out]; exact hd') (.inr (by rw [HDV.out]; exact ho)))
              go_wp2_with fail
              go_roundw
              case rel => exact ⟨k + 1, 0, true, by omega, by go_num, rfl, rfl, by omega, hn.out, HW2.out⟩
              case measure => simp [intOf]; omega
            · have t1 : (m : Int) ≤ (18446744073709551615 - (d : Int)) / (base : Int) := ref_fits hb (Nat.le_of_not_lt ho)
              have t2 : (m : Int) * (base : Int) + (d : Int) ≤ 18446744073709551615 := ref_fits2 (Nat.le_of_not_lt ho)
              have t3 : 0 ≤ (m : Int) * (base : Int) := Int.mul_nonneg (by omega) (by omega)
              have hn := Lib.hid (RefSt.fits HST.out (by rw [HDV.out]; exact hd') (by rw [HDV.out]; omega))
              go_wp2_with fail
              go_roundw
              case rel => exact ⟨k + 1, m * base + d, false, by omega, by go_num, by rw [Int.natCast_add, Int.natCast_mul], rfl, by omega, by have := hn.out; rw [HDV.out] at this; exact this, HW2.out⟩
              case measure => simp [intOf]; omega
          · obtain rfl : m = 0 := HST.out.2 rfl
            have hn := Lib.hid (RefSt.over (by omega) HST.out (by rw [HDV.out]; exact hd') (.inl rfl))
            go_wp2_with fail
            go_roundw
            case rel => exact ⟨k + 1, 0, true, by omega, by go_num, rfl, rfl, by omega, hn.out, HW2.out⟩
            case measure => simp [intOf]; omega
      · obtain rfl : k = s.size := by omega
        cases ob
        · by_cases hmm : most < m
          · go_wp2_with fail
            go_ret3
            refine RefNum.mk' (numRes_over (by omega) HST.out.1.2.2 ?_) rfl rfl rfl HW.out
            by_cases hx : 18446744073709551616 ≤ numTo base s s.size
            · exact .inl hx
            · exact .inr (by rw [← HST.out.1.2.1 (by omega)]; exact hmm)
          · go_wp2_with fail
            go_ret3
            have hx : ¬ 18446744073709551616 ≤ numTo base s s.size := by simpa using HST.out.1.1.symm
            have hn := HST.out.1.2.1 (by omega)
            exact RefNum.mk' (numRes_good (by omega) HST.out.1.2.2 (by omega)) (by rw [hn]) rfl rfl HW.out
        · go_wp2_with fail
          go_ret3
          have hx : 18446744073709551616 ≤ numTo base s s.size := by simpa using HST.out.1.1.symm
          exact RefNum.mk' (numRes_over (by omega) HST.out.1.2.2 (.inl hx)) rfl rfl rfl HW.out
end Go.Proofs.YtibhohpamnpkcaaGreatDoor

/- Plain facts on a number's digits. -/
namespace Go.Proofs.YtibhohpamnpkcaaGreatDoor

/-- The figure of a digit. -/
def figN (d : Nat) : Nat := if d < 10 then 48 + d else 55 + d
/-- The k lowest digits of n, the highest first. -/
def digs (base : Nat) : Nat → Nat → List UInt8
  | 0, _ => []
  | k + 1, n => digs base k (n / base) ++ [UInt8.ofNat (figN (n % base))]
/-- How many digits n has; 0 has none. -/
def ndigs (base : Nat) : Nat → Nat → Nat
  | 0, _ => 0
  | f + 1, n => if n = 0 then 0 else ndigs base f (n / base) + 1

theorem digs_length (base k n : Nat) : (digs base k n).length = k := by
  induction k generalizing n with
  | zero => rfl
  | succ k ih => simp [digs, ih]

/-- One digit more, at the head. -/
theorem digs_head (base : Nat) (k n : Nat) : digs base (k + 1) n = UInt8.ofNat (figN (n / base ^ k % base)) :: digs base k n := by
  induction k generalizing n with
  | zero => simp [digs]
  | succ k ih =>
    rw [digs, ih (n / base), digs, Nat.div_div_eq_div_mul, ← Nat.pow_succ', List.cons_append]

theorem figN_lt (d : Nat) (h : d < 16) : figN d < 256 := by unfold figN; split <;> omega
theorem valN_figN (d : Nat) (h : d < 16) : valN (figN d) = d := by
  unfold figN valN
  by_cases h1 : d < 10
  · rw [if_pos h1, if_pos (by omega)]; omega
  · rw [if_neg h1, if_neg (by omega), if_neg (by omega), if_pos (by omega)]; omega
theorem valN_fig (d : Nat) (h : d < 16) : valN (UInt8.ofNat (figN d)).toNat = d := by
  rw [UInt8.toNat_ofNat_of_lt' (figN_lt d h), valN_figN d h]

/-- The number that a list of bytes gives. -/
def numL (base : Nat) (l : List UInt8) : Nat := l.foldl (fun n c => n * base + valN c.toNat) 0

theorem numTo_numL (base : Nat) (s : ByteArray) (k : Nat) (hk : k ≤ s.size) : numTo base s k = numL base (s.data.toList.take k) := by
  induction k with
  | zero => simp [numTo, numL]
  | succ k ih =>
    have hl : s.data.toList.length = s.size := rfl
    have ht : s.data.toList.take (k + 1) = s.data.toList.take k ++ [byteAt s k] := by
      rw [List.take_succ_eq_append_getElem (by omega)]
      simp [byteAt, List.getD, hl, show k < s.size from hk]
    rw [numTo, ih (by omega), ht]
    simp [numL, List.foldl_append]

theorem numL_digs (base : Nat) (hb : 2 ≤ base) (hb2 : base ≤ 16) (k n : Nat) (h : n < base ^ k) : numL base (digs base k n) = n := by
  induction k generalizing n with
  | zero => simp at h; subst h; rfl
  | succ k ih =>
    have hm : n % base < 16 := Nat.lt_of_lt_of_le (Nat.mod_lt _ (by omega)) hb2
    have hd : n / base < base ^ k := by
      rw [Nat.div_lt_iff_lt_mul (by omega), ← Nat.pow_succ]
      exact h
    rw [digs, numL, List.foldl_append]
    simp only [List.foldl_cons, List.foldl_nil]
    have := ih (n / base) hd
    rw [numL] at this
    rw [this, valN_fig _ hm]
    have := Nat.div_add_mod n base
    rw [Nat.mul_comm] at this
    exact this

theorem digs_small (base : Nat) (hb : 2 ≤ base) (hb2 : base ≤ 16) (k n : Nat) : ∀ c, c ∈ digs base k n → valN c.toNat < base := by
  induction k generalizing n with
  | zero => intro c hc; simp [digs] at hc
  | succ k ih =>
    intro c hc
    rw [digs, List.mem_append] at hc
    rcases hc with hc | hc
    · exact ih _ c hc
    · simp at hc
      subst hc
      rw [valN_fig _ (Nat.lt_of_lt_of_le (Nat.mod_lt _ (by omega)) hb2)]
      exact Nat.mod_lt _ (by omega)

theorem numRes_digs (base : Nat) (hb : 2 ≤ base) (hb2 : base ≤ 16) (k n : Nat) (hk : 0 < k) (h : n < base ^ k) (hn : n < 18446744073709551616) :
    numRes ⟨(digs base k n).toArray⟩ base 18446744073709551615 = (n, 0, 0) := by
  have hsz : (⟨(digs base k n).toArray⟩ : ByteArray).size = k := by
    show (digs base k n).toArray.size = k
    simp [digs_length]
  have hN : numTo base ⟨(digs base k n).toArray⟩ k = n := by
    rw [numTo_numL _ _ _ (by omega)]
    show numL base ((digs base k n).toArray.toList.take k) = n
    rw [List.toList_toArray, List.take_of_length_le (by simp [digs_length]), numL_digs base hb hb2 k n h]
  rw [numRes, if_neg (by omega), firstBad_none]
  · rw [hsz, hN]
    exact if_neg (by omega)
  · intro j hj
    rw [hsz] at hj
    refine digs_small base hb hb2 k n _ ?_
    have hl : j < (digs base k n).length := by rw [digs_length]; exact hj
    show (digs base k n).toArray.toList.getD j 0 ∈ digs base k n
    rw [List.toList_toArray, List.getD, List.getElem?_eq_getElem hl]
    exact List.getElem_mem hl

/-- When the digits are all told. -/
theorem ndigs_lt (base : Nat) (hb : 2 ≤ base) (f n : Nat) (h : n < base ^ f) : n < base ^ ndigs base f n := by
  induction f generalizing n with
  | zero => simpa [ndigs] using h
  | succ f ih =>
    rw [ndigs]
    by_cases h0 : n = 0
    · rw [if_pos h0, h0]; exact Nat.pow_pos (by omega)
    · rw [if_neg h0, Nat.pow_succ, ← Nat.div_lt_iff_lt_mul (by omega)]
      exact ih (n / base) (by rw [Nat.div_lt_iff_lt_mul (by omega), ← Nat.pow_succ]; exact h)
theorem ndigs_le (base f n : Nat) : ndigs base f n ≤ f := by
  induction f generalizing n with
  | zero => simp [ndigs]
  | succ f ih =>
    rw [ndigs]
    split
    · omega
    · have := ih (n / base); omega
/-- Below their number there is something left, from it on nothing. -/
theorem ndigs_pos (base : Nat) (hb : 2 ≤ base) (f n j : Nat) (h : n < base ^ f) : 0 < n / base ^ j ↔ j < ndigs base f n := by
  induction f generalizing n j with
  | zero => simp at h; subst h; simp [ndigs]
  | succ f ih =>
    rw [ndigs]
    by_cases h0 : n = 0
    · rw [if_pos h0, h0]; simp
    · rw [if_neg h0]
      cases j with
      | zero => simp; omega
      | succ j =>
        rw [Nat.pow_succ', ← Nat.div_div_eq_div_mul, ih (n / base) j (by rw [Nat.div_lt_iff_lt_mul (by omega), ← Nat.pow_succ]; exact h)]
        omega
/-- Noughts ahead. -/
theorem digs_pad (base : Nat) (k n : Nat) (h : n < base ^ k) : digs base (k + 1) n = 48 :: digs base k n := by
  rw [digs_head, Nat.div_eq_of_lt h]
  simp [figN]
end Go.Proofs.YtibhohpamnpkcaaGreatDoor

/- Plain: texts with escapes. -/
namespace Go.Proofs.YtibhohpamnpkcaaGreatDoor

theorem ext_size (p : ByteArray) (i j : Nat) (hij : i ≤ j) (hj : j ≤ p.size) : (p.extract i j).size = j - i := by
  rw [ByteArray.size_extract]; omega
theorem numRes_most (s : ByteArray) (base most : Nat) (h : (numRes s base most).2.1 = 0) : (numRes s base most).1 ≤ most := by
  unfold numRes at h ⊢
  by_cases h0 : s.size = 0
  · rw [if_pos h0] at h; simp at h
  · rw [if_neg h0] at h ⊢
    cases hx : firstBad base s with
    | some i => rw [hx] at h; simp at h
    | none =>
      rw [hx] at h
      simp only at h ⊢
      by_cases ho : 18446744073709551616 ≤ numTo base s s.size ∨ most < numTo base s s.size
      · rw [if_pos ho] at h; simp at h
      · rw [if_neg ho] at h ⊢
        show numTo base s s.size ≤ most
        omega
theorem numRes_zero (s : ByteArray) (base most : Nat) (h : (numRes s base most).2.1 ≠ 0) : (numRes s base most).1 = 0 := by
  unfold numRes at h ⊢
  by_cases h0 : s.size = 0
  · rw [if_pos h0]
  · rw [if_neg h0] at h ⊢
    cases hx : firstBad base s with
    | some i => simp only
    | none =>
      rw [hx] at h
      simp only at h ⊢
      by_cases ho : 18446744073709551616 ≤ numTo base s s.size ∨ most < numTo base s s.size
      · rw [if_pos ho]
      · rw [if_neg ho] at h
        exact absurd rfl h

/-- The byte of the escape at a place. -/
def escRes (s : ByteArray) (i : Nat) : Nat × Nat × Nat := numRes (s.extract (i + 1) (i + 3)) 16 255
def escOk (s : ByteArray) (i : Nat) : Bool := decide (i + 3 ≤ s.size) && decide ((escRes s i).2.1 = 0)
def escC (s : ByteArray) (i : Nat) : UInt8 := UInt8.ofNat (escRes s i).1
theorem escC_nat {s : ByteArray} {i : Nat} (h : escOk s i = true) : (escC s i).toNat = (escRes s i).1 := by
  unfold escOk at h
  rw [Bool.and_eq_true, decide_eq_true_iff, decide_eq_true_iff] at h
  have := numRes_most _ _ _ h.2
  unfold escC
  rw [UInt8.toNat_ofNat']
  exact Nat.mod_eq_of_lt (by unfold escRes at *; omega)

/-- What is told of a text from a place on: its bytes in order, and whether they are escapes; the place of the first escape that isn't right. -/
def toldFrom (s : ByteArray) : Nat → Nat → List (UInt8 × Bool) × Option Nat
  | 0, _ => ([], none)
  | f + 1, i => if i < s.size then (if (byteAt s i).toNat = 37 then (if escOk s i = true then ((escC s i, true) :: (toldFrom s f (i + 3)).1, (toldFrom s f (i + 3)).2) else ([], some i)) else ((byteAt s i, false) :: (toldFrom s f (i + 1)).1, (toldFrom s f (i + 1)).2)) else ([], none)
def told (s : ByteArray) : List (UInt8 × Bool) × Option Nat := toldFrom s s.size 0
/-- So much has been told, up to a place. -/
def Told (s : ByteArray) (l : List (UInt8 × Bool)) (i : Nat) : Prop := ∃ f, s.size - i ≤ f ∧ l.length ≤ i ∧ told s = (l ++ (toldFrom s f i).1, (toldFrom s f i).2)
theorem Told.zero (s : ByteArray) : Told s [] 0 := ⟨s.size, by omega, by simp, by simp [told]⟩
theorem Told.plain {s : ByteArray} {l : List (UInt8 × Bool)} {i : Nat} (h : Told s l i) (hi : i < s.size) (hc : (byteAt s i).toNat ≠ 37) : Told s (l ++ [(byteAt s i, false)]) (i + 1) := by
  obtain ⟨f, hf, hl, e⟩ := h
  cases f with
  | zero => omega
  | succ f =>
    rw [toldFrom, if_pos hi, if_neg hc] at e
    exact ⟨f, by omega, by simp; omega, by simpa using e⟩
theorem Told.esc {s : ByteArray} {l : List (UInt8 × Bool)} {i : Nat} (h : Told s l i) (hi : i < s.size) (hc : (byteAt s i).toNat = 37) (ho : escOk s i = true) : Told s (l ++ [(escC s i, true)]) (i + 3) := by
  obtain ⟨f, hf, hl, e⟩ := h
  cases f with
  | zero => omega
  | succ f =>
    rw [toldFrom, if_pos hi, if_pos hc, if_pos ho] at e
    exact ⟨f, by omega, by simp; omega, by simpa using e⟩
theorem Told.bad {s : ByteArray} {l : List (UInt8 × Bool)} {i : Nat} (h : Told s l i) (hi : i < s.size) (hc : (byteAt s i).toNat = 37) (ho : escOk s i = false) : told s = (l, some i) := by
  obtain ⟨f, hf, hl, e⟩ := h
  cases f with
  | zero => omega
  | succ f =>
    rw [toldFrom, if_pos hi, if_pos hc, if_neg (by simp [ho])] at e
    simpa using e
theorem Told.done {s : ByteArray} {l : List (UInt8 × Bool)} {i : Nat} (h : Told s l i) (hi : ¬ i < s.size) : told s = (l, none) := by
  obtain ⟨f, hf, hl, e⟩ := h
  cases f with
  | zero => rw [toldFrom] at e; simpa using e
  | succ f =>
    rw [toldFrom, if_neg hi] at e
    simpa using e
theorem escOk_le {s : ByteArray} {i : Nat} (h : escOk s i = true) : i + 3 ≤ s.size := by
  unfold escOk at h
  rw [Bool.and_eq_true, decide_eq_true_iff] at h
  exact h.1
theorem Told.len {s : ByteArray} {l : List (UInt8 × Bool)} {i : Nat} (h : Told s l i) : l.length ≤ i := by
  obtain ⟨_, _, h, _⟩ := h
  exact h

def unresN (n : Nat) : Bool := decide (97 ≤ n ∧ n ≤ 122) || (decide (65 ≤ n ∧ n ≤ 90) || (decide (48 ≤ n ∧ n ≤ 57) || decide (n = 45 ∨ n = 46 ∨ n = 95 ∨ n = 126)))
/-- Is a byte unreserved? -/
def unres (c : UInt8) : Bool := unresN c.toNat
/-- A byte as an escape. -/
def escW (c : UInt8) : List UInt8 := 37 :: digs 16 2 c.toNat
/-- A byte of a text in its normal form. -/
def normC (x : UInt8 × Bool) : List UInt8 := if x.2 = true ∧ unres x.1 = false then escW x.1 else [x.1]
def normL (l : List (UInt8 × Bool)) : List UInt8 := l.flatMap normC
def keepB (keep : ByteArray) (c : UInt8) : Bool := unres c || (decide (c.toNat ≠ 37) && hasB keep c)
def encC (keep : ByteArray) (c : UInt8) : List UInt8 := if keepB keep c = true then [c] else escW c
end Go.Proofs.YtibhohpamnpkcaaGreatDoor

/- percent.escape; percent.each, for each of the three functions that it is handed. -/
namespace Go.Proofs.YtibhohpamnpkcaaGreatDoor
open Go.RowKit

theorem ret_esc {a b : Int} {x y : Bool} (h : a = b) (k : x = y) : Ending.returned (.tuple #[.int .u8 a, .bool x]) = .returned (.tuple #[.int .u8 b, .bool y]) := by rw [h, k]
theorem byteAt_idx' {s : ByteArray} {i : Nat} (h : i < s.size) : s[i] = byteAt s i := by simp [byteAt, List.getD, h]; rfl

def EscPost (s : ByteArray) (i : Nat) (w : World) (e : Ending) (w' : World) : Prop := Below w.heap.size w w' ∧
  ((escOk s i = true ∧ e = .returned (.tuple #[.int .u8 ((escC s i).toNat : Int), .bool true])) ∨ (escOk s i = false ∧ e = .returned (.tuple #[.int .u8 0, .bool false])))

set_option maxHeartbeats 1600000 in
set_option maxRecDepth 100000 in
theorem percent_escape (s : ByteArray) (i : Nat) (w : World) (hs : s.size ≤ 16777216) (hi : i < s.size) : Calls Tryz.prog 148 #[.string s, .int .i64 (i : Int)] w (EscPost s i w) := by
  by_cases h3 : i + 3 ≤ s.size
  · have hsz := ext_size s (i + 1) (i + 3) (by omega) h3
    have hC := fun W => fold_Hex (s.extract (i + 1) (i + 3)) 255 W (by omega) (by omega)
    have hdef : numRes (s.extract (i + 1) (i + 3)) 16 255 = escRes s i := rfl
    have hok : escOk s i = decide ((escRes s i).2.1 = 0) := by unfold escOk; rw [decide_eq_true h3, Bool.true_and]
    have hc := @escC_nat s i
    have hz := fun h => numRes_zero (s.extract (i + 1) (i + 3)) 16 255 h
    have hm := fun h => numRes_most (s.extract (i + 1) (i + 3)) 16 255 h
    unfold NumPost at hC
    rw [hdef] at hC hz hm
    generalize escRes s i = r at *
    obtain ⟨n, k, j⟩ := r
    simp only at hC hz hm hok hc
    have HC := Lib.hid hC
    have HOK := Lib.hid hok
    have HCC := Lib.hid hc
    have HZ := Lib.hid hz
    have HM := Lib.hid hm
    have hi3 : (i : Int) + 3 ≤ (s.size : Int) := by omega
    clear hC hok hc hz hm hdef hsz h3
    go_enter Tryz.func148, Tryz.ntmps148
    go_wp2_with fail
    refine (HC.out _).mono ?_
    rintro e w1 ⟨v, rfl, hv, hb1⟩
    by_cases hk : k = 0
    · have hv0 : v = .nilIface := by
        rcases hv with ⟨_, h⟩ | ⟨h, _⟩
        · exact h
        · exact absurd hk h
      subst hv0
      have hn := HM.out hk
      have ho := HOK.out.trans (decide_eq_true hk)
      have hce := HCC.out ho
      have hw : IntKind.u8.wrap (n : Int) = (n : Int) := by unfold IntKind.wrap; simp [IntKind.signed, IntKind.bits]; omega
      have HO := Lib.hid ho
      have HCE := Lib.hid hce
      clear hk hv ho hce
      go_wp2_with fail
      go_quiet (fail)
      go_wp2_with fail
      go_ret2
      exact ⟨below_drewN hb1 _, .inl ⟨HO.out, ret_esc (by rw [HCE.out]) rfl⟩⟩
    · obtain ⟨inner, b, hvb, _⟩ : ∃ inner b, v = .iface 89 (.pointer (some ⟨b, 0, none⟩)) ∧ True := by
        rcases hv with ⟨h, _⟩ | ⟨_, n', b, h, _⟩
        · exact absurd h hk
        · exact ⟨n', b, h, trivial⟩
      subst hvb
      have hn := HZ.out hk
      have ho := HOK.out.trans (decide_eq_false hk)
      subst hn
      have HO := Lib.hid ho
      clear hk hv ho
      go_wp2_with fail
      go_quiet (fail)
      go_wp2_with fail
      go_ret2
      exact ⟨below_drewN hb1 _, .inr ⟨HO.out, rfl⟩⟩
  · have ho := Lib.hid (show escOk s i = false by unfold escOk; rw [decide_eq_false h3, Bool.false_and])
    have h3' : (s.size : Int) - (i : Int) < 3 := by omega
    clear h3
    go_enter Tryz.func148, Tryz.ntmps148
    go_wp2_with fail
    go_ret2
    exact ⟨Below.refl _ _, .inr ⟨ho.out, rfl⟩⟩

def EachPost (s : ByteArray) (Inv : List (UInt8 × Bool) → World → Prop) (e : Ending) (w' : World) : Prop :=
  Inv (told s).1 w' ∧ (((told s).2 = none ∧ e = .returned .nilIface) ∨ (∃ i, (told s).2 = some i ∧ ∃ v, e = .returned v ∧ IsFault w' v 11 i))

set_option maxHeartbeats 3200000 in
set_option maxRecDepth 100000 in
theorem each_Decode (b : Nat) (s : ByteArray) (hs : s.size ≤ 16777216) (Inv : List (UInt8 × Bool) → World → Prop) (hbelow : ∀ L w w', Inv L w → Below w.heap.size w w' → Inv L w')
    (hcall : ∀ L (c : UInt8) (esc : Bool) w, Inv L w → L.length ≤ s.size → Calls Tryz.prog 118 #[.int .u8 (c.toNat : Int), .bool esc, .pointer (some ⟨b, 0, none⟩)] w fun e w' => e = .returned (.tuple #[]) ∧ Inv (L ++ [(c, esc)]) w') (w : World) (h0 : Inv [] w) :
    Calls Tryz.prog 117 #[.string s, .func (.func 118) #[] #[.pointer (some ⟨b, 0, none⟩)]] w (EachPost s Inv) := by
  have HB := Lib.hid hbelow
  have HC := Lib.hid hcall
  clear hbelow hcall
  go_enter Tryz.func117, Tryz.ntmps117
  go_wp2_with fail
  go_loopw [5] (fun x wr => ∃ (i : Nat) (l : List (UInt8 × Bool)), i ≤ s.size ∧ x = .int .i64 i ∧ Told s l i ∧ Inv l wr) (fun x _ => s.size - (intOf x).toNat)
  case atStart => exact ⟨0, [], Nat.zero_le _, rfl, Told.zero s, h0⟩
  case round =>
    obtain ⟨i, l, hil, rfl, ht, hinv⟩ := hrel
    have HT := Lib.hid ht
    have HI := Lib.hid hinv
    have hll := ht.len
    clear ht hinv
    by_cases hlt : i < s.size
    · have hbk := byteAt_idx' hlt
      have hplain := fun h => HT.out.plain hlt h
      have hesc := fun h k => HT.out.esc hlt h k
      have hbad := fun h k => HT.out.bad hlt h k
      have hle := @escOk_le s i
      rw [← hbk] at hplain hesc hbad
      have hcp := HC.out l s[i] false wr HI.out (by omega)
      have hE := percent_escape s i wr hs hlt
      unfold EscPost at hE
      have HP := Lib.hid hplain
      have HE := Lib.hid hesc
      have HBD := Lib.hid hbad
      have HLE := Lib.hid hle
      have HCP := Lib.hid hcp
      have HEC := Lib.hid hE
      clear hplain hesc hbad hle hcp hE hbk
      by_cases h37 : s[i].toNat = 37
      · have e1 : ((s[i].toNat : Int) != 37) = false := by rw [h37]; rfl
        have H37 := Lib.hid h37
        clear h37
        go_wp2_with fail
        refine (HEC.out).mono ?_
        rintro e w1 ⟨hb1, h⟩
        have hinv1 := HB.out _ _ _ HI.out hb1
        rcases h with ⟨ho, rfl⟩ | ⟨ho, rfl⟩
        · have hi3 := HLE.out ho
          have ht2 := HE.out H37.out ho
          have hcc := HC.out l (escC s i) true w1 hinv1 (by omega)
          generalize escC s i = c at *
          have HT2 := Lib.hid ht2
          have HCC := Lib.hid hcc
          clear ho ht2 hcc hinv1
          go_wp2_with fail
          refine (HCC.out).mono ?_
          rintro e w2 ⟨rfl, hinv2⟩
          have HI2 := Lib.hid hinv2
          clear hinv2
          go_wp2_with fail
          go_roundw
          case rel => exact ⟨i + 3, _, by omega, by go_num, HT2.out, HI2.out⟩
          case measure => simp [intOf]; omega
        · have hb2 := HBD.out H37.out ho
          have HB2 := Lib.hid hb2
          have HI1 := Lib.hid hinv1
          clear ho hb2 hinv1
          go_wp2_with fail
          refine (api_Fail' 11 (i : Int) _).mono ?_
          rintro e w2 ⟨v, rfl, hv, hb3⟩
          have hinv2 := HB.out _ _ _ HI1.out hb3
          have HI2 := Lib.hid hinv2
          clear hinv2
          go_wp2_with fail
          go_ret
          exact ⟨by rw [HB2.out]; exact HI2.out, .inr ⟨i, by rw [HB2.out], v, rfl, hv⟩⟩
      · have e1 : ((s[i].toNat : Int) != 37) = true := by rw [bne_iff_ne]; omega
        have ht2 := HP.out h37
        have HT2 := Lib.hid ht2
        clear h37 ht2
        go_wp2_with fail
        refine (HCP.out).mono ?_
        rintro e w2 ⟨rfl, hinv2⟩
        have HI2 := Lib.hid hinv2
        clear hinv2
        go_wp2_with fail
        go_roundw
        case rel => exact ⟨i + 1, _, by omega, by go_num, HT2.out, HI2.out⟩
        case measure => simp [intOf]; omega
    · have hd := HT.out.done hlt
      obtain rfl : i = s.size := by omega
      have HD := Lib.hid hd
      clear hd
      go_wp2_with fail
      go_ret
      exact ⟨by rw [HD.out]; exact HI.out, .inl ⟨by rw [HD.out], rfl⟩⟩

end Go.Proofs.YtibhohpamnpkcaaGreatDoor

/- strings.Builder: copyCheck, WriteByte, WriteString (over a cut whose copyCheck holds a branch that no builder of the call's own reaches), String. -/
namespace Go.Proofs.YtibhohpamnpkcaaGreatDoor
open Go.RowKit

/-- A builder in block b, whose bytes lie in a row of the call's own, from B on. -/
def Bld (w : World) (B b : Nat) (l : List UInt8) : Prop :=
  b < B ∧ ∃ p v, (p = .pointer none ∨ p = .pointer (some ⟨b, 0, none⟩)) ∧ w.heap[b]? = some (.cells #[p, v] 280 (0, 0)) ∧ w.ownsRow B 5 1 v l.length (Lib.byteCells l)
/-- All blocks below B, but b, stand as they stood. -/
structure ButB (B b : Nat) (w w' : World) : Prop where
  os : w'.os = w.os
  tape : w'.tape = w.tape
  output : w'.output = w.output
  size : w.heap.size ≤ w'.heap.size
  block : ∀ k, k < B → k ≠ b → w'.heap[k]? = w.heap[k]?
theorem ButB.refl (B b : Nat) (w : World) : ButB B b w w := ⟨rfl, rfl, rfl, Nat.le_refl _, fun _ _ _ => rfl⟩
theorem ButB.trans {B b : Nat} {w w1 w2 : World} (h : ButB B b w w1) (k : ButB B b w1 w2) : ButB B b w w2 :=
  ⟨k.os.trans h.os, k.tape.trans h.tape, k.output.trans h.output, Nat.le_trans h.size k.size, fun i hi hn => (k.block i hi hn).trans (h.block i hi hn)⟩
theorem ButB.of_below {B b : Nat} {w w' : World} (h : Below B w w') : ButB B b w w' := ⟨h.os, h.tape, h.output, h.size, fun k hk _ => h.block k hk⟩
theorem ButB.setCell {B b : Nat} {w w' : World} (h : ButB B b w w') (j : Nat) (u : Value) : ButB B b w (w'.setCell ⟨b, j, none⟩ u) :=
  ⟨h.os, h.tape, h.output, by simpa [World.setCell] using h.size, fun k hk hn => (Below.heap_setCell w' ⟨b, j, none⟩ u k (fun e => hn e)).trans (h.block k hk hn)⟩
theorem ButB.below {B b B0 : Nat} {w w' : World} (h : ButB B b w w') (h1 : B0 ≤ b) (h2 : B0 ≤ B) : Below B0 w w' := ⟨h.os, h.tape, h.output, h.size, fun k hk => h.block k (by omega) (by omega)⟩
theorem BytesAt.but {w w' : World} {g B b : Nat} {l : List UInt8} (h : BytesAt w g l) (hb : ButB B b w w') (h1 : g < B) (h2 : g ≠ b) : BytesAt w' g l := by
  obtain ⟨e, rest, lo, hi, hlo, hh⟩ := h
  exact ⟨e, rest, lo, hi, hlo, (hb.block g h1 h2).trans hh⟩

theorem bld_size : (Tryz.prog.info? 280).map (·.size) = some 2 := by kernel_rfl
theorem bld_lies : liesAt Tryz.prog Tryz.prog.depth 280 (2 / Tryz.prog.cellsOf 280) 0 280 1 = true := by kernel_rfl
theorem bld_byte : (Tryz.prog.info? 5).map (fun i => (i.zero, i.size, i.bytes)) = some (some (.int .u8 0), 1, 1) := by kernel_rfl

theorem Bld.new {w' : World} {B b : Nat} {u : Obj} (hu : u = .cells #[.pointer none, .slice none 0 0] 280) (h : w'.heap[b]? = some u) (hb : b < B) : Bld w' B b [] :=
  ⟨hb, _, _, .inl rfl, by rw [h, hu], World.ownsRow_nil _ _ _ _⟩
theorem Bld.below {w w' : World} {B b : Nat} {l : List UInt8} (h : Bld w B b l) (hb : Below w.heap.size w w') : Bld w' B b l := by
  obtain ⟨h1, p, v, h2, h3, h4⟩ := h
  exact ⟨h1, p, v, h2, (hb.block b (lt_of_block h3)).trans h3, ownsRow_below h4 hb⟩
theorem Bld.lt {w : World} {B b : Nat} {l : List UInt8} (h : Bld w B b l) : b < w.heap.size := by
  obtain ⟨_, p, v, _, h3, _⟩ := h
  exact lt_of_block h3

set_option maxHeartbeats 1000000 in
set_option maxRecDepth 100000 in
theorem bld_check_used (b : Nat) (w : World) (h0 : w.cell? ⟨b, 0, none⟩ = some (.pointer (some ⟨b, 0, none⟩))) :
    Calls Tryz.prog 196 #[.pointer (some ⟨b, 0, none⟩)] w fun e w' => e = .returned (.tuple #[]) ∧ w' = w := by
  obtain ⟨j, hj, _⟩ := Option.map_eq_some_iff.1 bld_size
  have hnp := Lib.run_neq_ptr_same (P := Tryz.prog) w ⟨b, 0, none⟩ Tryz.underlying278 hj
  go_enter Tryz.func196, Tryz.ntmps196
  go_wp2
  go_end0
  exact ⟨rfl, rfl⟩
set_option maxHeartbeats 1000000 in
set_option maxRecDepth 100000 in
theorem bld_check_fresh (b : Nat) (w : World) (h0 : w.cell? ⟨b, 0, none⟩ = some (.pointer none)) (hsh : w.shape? b = some (280, 2)) (hfz : w.frozen? ⟨b, 0, none⟩ = false) :
    Calls Tryz.prog 196 #[.pointer (some ⟨b, 0, none⟩)] w fun e w' => e = .returned (.tuple #[]) ∧ w' = w.setCell ⟨b, 0, none⟩ (.pointer (some ⟨b, 0, none⟩)) := by
  obtain ⟨j, hj, hjs⟩ := Option.map_eq_some_iff.1 bld_size
  have k1 := Lib.run_to_unsafe (P := Tryz.prog) w ⟨b, 0, none⟩ Tryz.underlying278 Tryz.underlying115 hj (by rw [hjs]; decide) hsh (Nat.zero_lt_succ 1)
  have k2 : (callFunc 213 #[.pointer (some ⟨b, 0, none⟩)]).run Tryz.prog w = .ok (.value (.pointer (some ⟨b, 0, none⟩))) w := by
    rw [run_callFunc_extern Tryz.func213 (by kernel_rfl) (by kernel_rfl) (by kernel_rfl) (e := Extern.AbiNoEscape.same) (by kernel_rfl)]
    rw [Lib.run_noEscape]
    rfl
  have k3 := Lib.run_from_unsafe (P := Tryz.prog) w ⟨b, 0, none⟩ Tryz.underlying115 Tryz.underlying278 hj hsh bld_lies
  go_enter Tryz.func196, Tryz.ntmps196
  go_wp2
  go_end0
  exact ⟨rfl, rfl⟩
theorem bld_check (B b : Nat) (l : List UInt8) (w : World) (h : Bld w B b l) :
    Calls Tryz.prog 196 #[.pointer (some ⟨b, 0, none⟩)] w fun e w' => e = .returned (.tuple #[]) ∧ ButB B b w w' ∧ ∃ v, w'.heap[b]? = some (.cells #[.pointer (some ⟨b, 0, none⟩), v] 280 (0, 0)) ∧ w'.ownsRow B 5 1 v l.length (Lib.byteCells l) := by
  obtain ⟨h1, p, v, h2, h3, h4⟩ := h
  have c0 : w.cell? ⟨b, 0, none⟩ = some p := by rw [cell_of_row w b 0 _ _ _ h3]; rfl
  rcases h2 with rfl | rfl
  · refine (bld_check_fresh b w c0 (by simp [World.shape?, h3]) (Lib.frozen_of_heap h3 0)).mono ?_
    rintro e w' ⟨rfl, rfl⟩
    refine ⟨rfl, (ButB.refl B b w).setCell 0 _, v, by simp [World.setCell, Array.getElem?_modify, h3], ?_⟩
    refine h4.kept (row := some b) ⟨rfl, rfl, rfl, by simp [World.setCell], fun k _ hk => Below.heap_setCell _ _ _ _ (fun e => hk (by simp [e]))⟩ (.inr fun e => ?_)
    have := (h4.lt b e).1
    omega
  · refine (bld_check_used b w c0).mono ?_
    rintro e w' ⟨rfl, rfl⟩
    exact ⟨rfl, ButB.refl _ _ _, v, h3, h4⟩
theorem bld_put {w : World} {B b : Nat} {p v : Value} {n : Nat} {xs : List Value} {l : List UInt8} (hb : b < B) (hp : p = .pointer (some ⟨b, 0, none⟩)) {u : Value} (h3 : w.heap[b]? = some (.cells #[p, u] 280 (0, 0))) (h4 : w.ownsRow B 5 1 v n xs) (hn : n = l.length) (hx : xs = Lib.byteCells l) :
    Bld (w.setCell ⟨b, 1, none⟩ v) B b l := by
  subst hn hx
  refine ⟨hb, p, v, .inr hp, by simp [World.setCell, Array.getElem?_modify, h3], ?_⟩
  refine h4.kept (row := some b) ⟨rfl, rfl, rfl, by simp [World.setCell], fun k _ hk => Below.heap_setCell _ _ _ _ (fun e => hk (by simp [e]))⟩ (.inr fun e => ?_)
  have := (h4.lt b e).1
  omega

set_option maxHeartbeats 2000000 in
set_option maxRecDepth 100000 in
theorem bld_WriteByte (B b : Nat) (l : List UInt8) (c : UInt8) (w : World) (h : Bld w B b l) (hlen : l.length ≤ 1073741824) (hBw : B ≤ w.heap.size) :
    Calls Tryz.prog 170 #[.pointer (some ⟨b, 0, none⟩), .int .u8 (c.toNat : Int)] w fun e w' => e = .returned .nilIface ∧ Bld w' B b (l ++ [c]) ∧ ButB B b w w' := by
  obtain ⟨i0, hi, hz0, hz1, hz2⟩ := info_parts bld_byte
  have hbB := h.1
  go_enter Tryz.func170, Tryz.ntmps170
  go_wp2_with fail
  refine (bld_check B b l _ h).mono ?_
  rintro e w1 ⟨rfl, hb1, v, hbk, hown⟩
  have c0 : w1.cell? ⟨b, 0, none⟩ = some (.pointer (some ⟨b, 0, none⟩)) := by rw [Lib.cell_of_heap hbk]; rfl
  have c1 : w1.cell? ⟨b, 1, none⟩ = some v := by rw [Lib.cell_of_heap hbk]; rfl
  have hsz1 := hb1.size
  go_wp2_with (at_builtin; refine wpList_append_own _ rfl _ _ 74 rfl B 5 i0 (.int .u8 0) 1 1 Tryz.underlying74 hi hz0 hz1 hz2 rfl (by decide) _ _ _ rfl (hown.alloc _) ⟨w1.heap.size, 0, none⟩ 1 1 [.int .u8 (c.toNat : Int)] rfl rfl ?c1 ?c2 ?c3 ?c4 ?c5 ?_)
  case c1 =>
    intro j u hj
    match j, hj with
    | 0, hj => simp at hj; subst hj; simp [Addr.add]
  case c2 => intro u hu; simp at hu; subst hu; rfl
  case c3 => unfold maxLen; omega
  case c4 => omega
  case c5 => simp; omega
  intro v' w2 hown' hgrow _
  have hlt : b < w1.heap.size := lt_of_block hbk
  have hne : v.ownBlock ≠ some b := fun e => by have := (hown.lt b e).1; omega
  have hb2 : w2.heap[b]? = some (.cells #[.pointer (some ⟨b, 0, none⟩), v] 280 (0, 0)) := by
    rw [hgrow.block b (by simp; omega) (fun e => hne e.symm), Lib.alloc_old w1 _ b hlt]
    exact hbk
  have d0 : w2.cell? ⟨b, 0, none⟩ = some (.pointer (some ⟨b, 0, none⟩)) := by rw [Lib.cell_of_heap hb2]; rfl
  have d1 : w2.cell? ⟨b, 1, none⟩ = some v := by rw [Lib.cell_of_heap hb2]; rfl
  have f1 : w2.frozen? ⟨b, 1, none⟩ = false := Lib.frozen_of_heap hb2 1
  obtain ⟨g, cap, rfl⟩ : ∃ g cap, v' = .slice (some ⟨g, 0, none⟩) (l.length + 1) cap := by
    rcases hown'.2 with ⟨_, h0⟩ | ⟨g, cap, cur, hv, _⟩
    · omega
    · exact ⟨g, cap, hv⟩
  have hb12 : Below B w1 w2 := ((Below.refl B w1).alloc (by omega) _).grown hgrow (by simp; omega) (fun k hk => (hown.lt k hk).1)
  have hbe := ((hb1.trans (ButB.of_below hb12)).setCell 1 (.slice (some ⟨g, 0, none⟩) (l.length + 1) cap))
  have hput := bld_put (l := l ++ [c]) hbB rfl hb2 hown' (by simp) (by unfold Lib.byteCells; simp)
  clear hb12 hown' hown hgrow hb1
  go_wp2
  go_ret
  exact ⟨rfl, hput, hbe⟩

theorem bld_String (B b : Nat) (l : List UInt8) (w : World) (h : Bld w B b l) (hBw : B ≤ w.heap.size) :
    Calls Tryz.prog 169 #[.pointer (some ⟨b, 0, none⟩)] w fun e w' => e = .returned (.string ⟨l.toArray⟩) ∧ Below b w w' := by
  obtain ⟨h1, p, v, h2, h3, h4⟩ := h
  have hne : v.ownBlock ≠ some b := fun e => by have := (h4.lt b e).1; omega
  have hw : w.ownsRow b 5 1 v (Lib.byteCells l).length (Lib.byteCells l) := by rw [Lib.byteCells_length]; exact ownsRow_base h4 (Nat.le_of_lt h1)
  have hi : Lib.IsBuilder 280 5 b b (Lib.byteCells l) w := by
    rcases h2 with rfl | rfl
    · exact .inl ⟨Nat.le_refl _, v, h3, hw, hne⟩
    · exact .inr ⟨Nat.le_refl _, v, h3, hw, hne⟩
  exact Tryz.Builder_String_any b b l w hi (by omega)
end Go.Proofs.YtibhohpamnpkcaaGreatDoor

/- fold.written: a number's digits of a base, at least so many. -/
namespace Go.Proofs.YtibhohpamnpkcaaGreatDoor
open Go.RowKit

/-- A number's digits, at least so many. -/
def writ (base n width : Nat) : List UInt8 := digs base (max (ndigs base 64 n) (max width 1)) n

theorem fig_at (i : Nat) (h : i < 16) : (⟨#[48, 49, 50, 51, 52, 53, 54, 55, 56, 57, 65, 66, 67, 68, 69, 70]⟩ : ByteArray)[i]'h = UInt8.ofNat (figN i) := by
  have : ∀ i : Fin 16, (⟨#[48, 49, 50, 51, 52, 53, 54, 55, 56, 57, 65, 66, 67, 68, 69, 70]⟩ : ByteArray)[i.1]'i.2 = UInt8.ofNat (figN i.1) := by decide
  exact this ⟨i, h⟩

theorem set_mid {α : Type} (z b : α) (r : Nat) (D : List α) : (List.replicate (r + 1) z ++ D).set r b = List.replicate r z ++ (b :: D) := by
  induction r with
  | zero => simp
  | succ r ih => rw [List.replicate_succ, List.cons_append, List.set_cons_succ, ih, List.replicate_succ, List.cons_append]

theorem writ_step {w : World} {g j base n m : Nat} (hB : BytesAt w g (List.replicate (64 - j) 0 ++ digs base j n)) (hj : j < 64) (hm : n / base ^ j = m) (b : UInt8) (hb : b = UInt8.ofNat (figN (m % base))) :
    BytesAt (w.setCell ⟨g, 64 - j - 1, none⟩ (.int .u8 (b.toNat : Int))) g (List.replicate (64 - (j + 1)) 0 ++ digs base (j + 1) n) := by
  have h := hB.store (k := 64 - j - 1) (by simp [digs_length]; omega) b
  have e : 64 - j = (64 - (j + 1)) + 1 := by omega
  have e2 : 64 - j - 1 = 64 - (j + 1) := by omega
  rw [digs_head, hm, ← hb, ← set_mid, ← e, ← e2]
  exact h

end Go.Proofs.YtibhohpamnpkcaaGreatDoor
