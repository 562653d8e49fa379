/- The reference's digit and Number: they are what fold.number tells. -/
import Derived.Test.YtpaeloadmjblpaaDoorNumber
import Derived.Test.YtpaeloadmjblpaaDoorSmall
namespace Go.Proofs.YtpaeloadmjblpaaDoor
open Go.RowKit

/-- The digits' list of the reference. -/
def hexs : ByteArray := ⟨#[48, 49, 50, 51, 52, 53, 54, 55, 56, 57, 97, 98, 99, 100, 101, 102]⟩
theorem hexs_find (n : Nat) (hn : n < 256) : (∀ k, k < 16 → ((hexs.data.toList.getD k 0).toNat = smallN n ↔ valN n = k)) ∧ (valN n < 16 ∨ valN n = 99) := by
  have : ∀ n : Fin 256, (∀ k : Fin 16, ((hexs.data.toList.getD k.1 0).toNat = smallN n.1 ↔ valN n.1 = k.1)) ∧ (valN n.1 < 16 ∨ valN n.1 = 99) := by decide +kernel
  have h := this ⟨n, hn⟩
  exact ⟨fun k hk => h.1 ⟨k, hk⟩, h.2⟩

set_option maxHeartbeats 1600000 in
set_option maxRecDepth 100000 in
theorem ref_digit (n : Nat) (hn : n < 256) (w : World) : Calls Tryd.prog 59 #[.int .u8 (n : Int)] w fun e w' => e = .returned (.int .u64 (valN n : Nat)) ∧ ∃ q, w.drewN q = w' := by
  obtain ⟨hf, hv⟩ := hexs_find n hn
  have HF := Lib.hid hf
  clear hf
  go_enter Tryd.func59, Tryd.ntmps59
  go_wp2_with fail
  go_loopw [4] (fun i wr => ∃ k q : Nat, k ≤ 16 ∧ i = .int .i64 k ∧ (∀ j, j < k → valN n ≠ j) ∧ w.drewN q = wr) (fun i _ => 16 - (intOf i).toNat)
  case atStart => exact ⟨0, 0, by omega, rfl, fun j hj => by omega, rfl⟩
  case round =>
    obtain ⟨k, q, hk, rfl, hall, hwr⟩ := hrel
    have HW := Lib.hid hwr
    have HA := Lib.hid hall
    clear hall hwr
    by_cases hlt : k < 16
    · have hcond := HF.out k hlt
      have i1 : (k : Int) < 16 := by omega
      have hbk : (hexs.data.toList.getD k 0) = (⟨#[48, 49, 50, 51, 52, 53, 54, 55, 56, 57, 97, 98, 99, 100, 101, 102]⟩ : ByteArray)[k]'hlt := by
        simp [hexs, List.getD, hlt]; rfl
      rw [hbk] at hcond
      clear hbk
      by_cases hc : valN n = k
      · have e1 := hcond.2 hc
        have e2 : ((((⟨#[48, 49, 50, 51, 52, 53, 54, 55, 56, 57, 97, 98, 99, 100, 101, 102]⟩ : ByteArray)[k]'hlt).toNat : Int) == (smallN n : Int)) = true := by
          rw [beq_iff_eq]; exact_mod_cast e1
        have HC := Lib.hid hc
        clear hc hcond e1
        go_wp2_with fail
        go_quiet ((go_at_call 69; exact Calls.quiet_of_same ((ref_Small n hn _).mono fun _ _ ⟨a, b⟩ => ⟨a, b.symm⟩)))
        go_wp2_with fail
        go_ret
        exact ⟨ret_u64 (by rw [HC.out]), _, by rw [← HW.out, World.drewN_drewN]⟩
      · have e2 : ((((⟨#[48, 49, 50, 51, 52, 53, 54, 55, 56, 57, 97, 98, 99, 100, 101, 102]⟩ : ByteArray)[k]'hlt).toNat : Int) == (smallN n : Int)) = false := by
          rw [beq_eq_false_iff_ne]
          intro h
          exact hc (hcond.1 (by exact_mod_cast h))
        have HC := Lib.hid hc
        clear hc hcond
        go_wp2_with fail
        go_quiet ((go_at_call 69; exact Calls.quiet_of_same ((ref_Small n hn _).mono fun _ _ ⟨a, b⟩ => ⟨a, b.symm⟩)))
        go_wp2_with fail
        go_roundw
        case rel => exact ⟨k + 1, _, by omega, by go_num, fun j hj => by
          by_cases hjk : j = k
          · subst hjk; exact HC.out
          · exact HA.out j (by omega), by rw [← HW.out, World.drewN_drewN]⟩
        case measure => simp [intOf]; omega
    · obtain rfl : k = 16 := by omega
      have h99 : valN n = 99 := by
        rcases hv with h | h
        · exact absurd rfl (HA.out _ h)
        · exact h
      have H99 := Lib.hid h99
      clear h99 hv
      go_wp2_with fail
      go_ret
      exact ⟨ret_u64 (by rw [H99.out]; rfl), _, HW.out⟩

theorem numRes_none {s : ByteArray} (base most : Nat) (h0 : s.size = 0) : numRes s base most = (0, 10, 0) := by rw [numRes, if_pos h0]
theorem numRes_bad {s : ByteArray} {base i : Nat} (most : Nat) (hi : i < s.size) (h : ∀ j, j < i → valN (byteAt s j).toNat < base) (hb : base ≤ valN (byteAt s i).toNat) : numRes s base most = (0, 11, i) := by
  rw [numRes, if_neg (by omega), firstBad_some hi h hb]
theorem numRes_over {s : ByteArray} {base most : Nat} (h0 : 0 < s.size) (h : ∀ j, j < s.size → valN (byteAt s j).toNat < base) (ho : 18446744073709551616 ≤ numTo base s s.size ∨ most < numTo base s s.size) : numRes s base most = (0, 16, 0) := by
  rw [numRes, if_neg (by omega), firstBad_none h]; exact if_pos ho
theorem numRes_good {s : ByteArray} {base most : Nat} (h0 : 0 < s.size) (h : ∀ j, j < s.size → valN (byteAt s j).toNat < base) (ho : ¬ (18446744073709551616 ≤ numTo base s s.size ∨ most < numTo base s s.size)) : numRes s base most = (numTo base s s.size, 0, 0) := by
  rw [numRes, if_neg (by omega), firstBad_none h]; exact if_neg ho

def RefNum (s : ByteArray) (base most : Nat) (w : World) (e : Ending) (w' : World) : Prop :=
  e = .returned (.tuple #[.int .u64 ((numRes s base most).1 : Int), .int .i64 ((numRes s base most).2.1 : Int), .int .i64 ((numRes s base most).2.2 : Int)]) ∧ ∃ q, w.drewN q = w'
theorem RefNum.mk' {s : ByteArray} {base most n k i : Nat} {w w' : World} (h : numRes s base most = (n, k, i)) {a b c : Int} (ha : a = n) (hb : b = k) (hc : c = i) (hw : ∃ q, w.drewN q = w') :
    RefNum s base most w (.returned (.tuple #[.int .u64 a, .int .i64 b, .int .i64 c])) w' := by
  refine ⟨?_, hw⟩
  rw [h, ha, hb, hc]

/-- The state of the reference's loop. -/
def RefSt (base : Nat) (s : ByteArray) (k n : Nat) (o : Bool) : Prop := NumSt base s k n o ∧ (o = true → n = 0)
theorem RefSt.over {base : Nat} {s : ByteArray} {k n : Nat} {o : Bool} (hb : 1 ≤ base) (h : RefSt base s k n o) (hd : valN (byteAt s k).toNat < base) (ho : o = true ∨ 18446744073709551615 < n * base + valN (byteAt s k).toNat) :
    RefSt base s (k + 1) 0 true := by
  obtain ⟨⟨e1, e2, e3⟩, e4⟩ := h
  have hle : numTo base s k ≤ numTo base s (k + 1) := numTo_le base s hb (Nat.le_succ k)
  have hbig : 18446744073709551616 ≤ numTo base s (k + 1) := by
    rcases ho with ho | ho
    · rw [ho] at e1
      have : 18446744073709551616 ≤ numTo base s k := by simpa using e1.symm
      omega
    · by_cases hx : 18446744073709551616 ≤ numTo base s k
      · omega
      · have hn := e2 (by omega)
        rw [numTo, ← hn]
        omega
  refine ⟨⟨by rw [decide_eq_true hbig], fun h => by omega, fun j hj => ?_⟩, fun _ => rfl⟩
  by_cases hjk : j = k
  · subst hjk; exact hd
  · exact e3 j (by omega)
theorem RefSt.fits {base : Nat} {s : ByteArray} {k n : Nat} (h : RefSt base s k n false) (hd : valN (byteAt s k).toNat < base) (ho : n * base + valN (byteAt s k).toNat ≤ 18446744073709551615) :
    RefSt base s (k + 1) (n * base + valN (byteAt s k).toNat) false := by
  obtain ⟨⟨e1, e2, e3⟩, e4⟩ := h
  have hx : ¬ 18446744073709551616 ≤ numTo base s k := by simpa using e1.symm
  have hn := e2 (by omega)
  have he : numTo base s (k + 1) = n * base + valN (byteAt s k).toNat := by rw [numTo, hn]
  refine ⟨⟨?_, fun _ => he.symm, fun j hj => ?_⟩, fun h => by cases h⟩
  · rw [he, decide_eq_false (by omega)]
  · by_cases hjk : j = k
    · subst hjk; exact hd
    · exact e3 j (by omega)

theorem ref_over {m base d : Nat} (hb : 2 ≤ base) (h : 18446744073709551615 < m * base + d) : (18446744073709551615 - (d : Int)) / (base : Int) < (m : Int) := by
  refine Int.ediv_lt_of_lt_mul (by omega) ?_
  have : (18446744073709551615 : Int) < ((m * base + d : Nat) : Int) := by omega
  rw [Int.natCast_add, Int.natCast_mul] at this
  omega
theorem ref_fits2 {m base d : Nat} (h : m * base + d ≤ 18446744073709551615) : (m : Int) * (base : Int) + (d : Int) ≤ 18446744073709551615 := by
  have : ((m * base + d : Nat) : Int) ≤ 18446744073709551615 := by omega
  rw [Int.natCast_add, Int.natCast_mul] at this
  exact this
theorem ref_fits {m base d : Nat} (hb : 2 ≤ base) (h : m * base + d ≤ 18446744073709551615) : (m : Int) ≤ (18446744073709551615 - (d : Int)) / (base : Int) := by
  refine Int.le_ediv_of_mul_le (by omega) ?_
  have := ref_fits2 h
  omega

set_option maxHeartbeats 1600000 in
set_option maxRecDepth 100000 in
theorem ref_Number (s : ByteArray) (base most : Nat) (w : World) (hs : s.size ≤ 140737488351232) (hb : 2 ≤ base) (hb2 : base ≤ 16) (hm : most < 18446744073709551616) :
    Calls Tryd.prog 44 #[.string s, .int .u64 (base : Int), .int .u64 (most : Int)] w (RefNum s base most w) := by
  by_cases h0 : s.size = 0
  · have hr := Lib.hid (numRes_none base most h0)
    have hz : ((s.size : Int) == 0) = true := by rw [h0]; rfl
    clear h0
    go_enter Tryd.func44, Tryd.ntmps44
    go_wp2_with fail
    go_ret3
    exact RefNum.mk' hr.out rfl rfl rfl ⟨0, rfl⟩
  · have hz : ((s.size : Int) == 0) = false := by rw [beq_eq_false_iff_ne]; omega
    go_enter Tryd.func44, Tryd.ntmps44
    go_wp2_with fail
    go_loopw [9, 10, 11] (fun n o i wr => ∃ (k m : Nat) (ob : Bool), k ≤ s.size ∧ i = .int .i64 k ∧ n = .int .u64 m ∧ o = .bool ob ∧ m < 18446744073709551616 ∧ RefSt base s k m ob ∧ ∃ q, w.drewN q = wr)
      (fun _ _ i _ => s.size - (intOf i).toNat)
    case atStart => exact ⟨0, 0, false, Nat.zero_le _, rfl, rfl, rfl, by omega, ⟨NumSt.zero _ _, fun h => by cases h⟩, 0, rfl⟩
    case round =>
      obtain ⟨k, m, ob, hk, rfl, rfl, rfl, hm', hst, hwr⟩ := hrel
      have HST := Lib.hid hst
      have HW := Lib.hid hwr
      clear hst hwr hz
      by_cases hlt : k < s.size
      · have hbk : s[k] = byteAt s k := by simp [byteAt, List.getD, hlt]; rfl
        have hby : (byteAt s k).toNat < 256 := (byteAt s k).toNat_lt
        have HBK := Lib.hid hbk
        clear hbk
        go_wp2_with fail
        rw [HBK.out]
        refine (ref_digit _ hby _).mono ?_
        rintro e w2 ⟨rfl, q2, hq2⟩
        have HW2 : Hid (∃ q, w.drewN q = w2) := Lib.hid (by obtain ⟨q, hq⟩ := HW.out; exact ⟨q + q2, by rw [← hq2, ← hq, World.drewN_drewN]⟩)
        clear hq2 HW
        generalize hdv : valN (byteAt s k).toNat = d
        have HDV := Lib.hid hdv
        clear hdv
        by_cases hd : base ≤ d
        · go_wp2_with fail
          go_ret3
          exact RefNum.mk' (numRes_bad most hlt HST.out.1.2.2 (by rw [HDV.out]; exact hd)) rfl rfl rfl HW2.out
        · have hd' : d < base := by omega
          have hq0 : (0 : Int) ≤ (18446744073709551615 - (d : Int)) / (base : Int) := Int.ediv_nonneg (by omega) (by omega)
          have hq1 : (18446744073709551615 - (d : Int)) / (base : Int) ≤ 18446744073709551615 - (d : Int) := Int.ediv_le_self _ (by omega)
          cases ob
          · by_cases ho : 18446744073709551615 < m * base + d
            · have t1 : (18446744073709551615 - (d : Int)) / (base : Int) < (m : Int) := ref_over hb ho
              have hn := Lib.hid (RefSt.over (by omega) HST.out (by rw [HDV.out]; exact hd') (.inr (by rw [HDV.out]; exact ho)))
              go_wp2_with fail
              go_roundw
              case rel => exact ⟨k + 1, 0, true, by omega, by go_num, rfl, rfl, by omega, hn.out, HW2.out⟩
              case measure => simp [intOf]; omega
            · have t1 : (m : Int) ≤ (18446744073709551615 - (d : Int)) / (base : Int) := ref_fits hb (Nat.le_of_not_lt ho)
              have t2 : (m : Int) * (base : Int) + (d : Int) ≤ 18446744073709551615 := ref_fits2 (Nat.le_of_not_lt ho)
              have t3 : 0 ≤ (m : Int) * (base : Int) := Int.mul_nonneg (by omega) (by omega)
              have hn := Lib.hid (RefSt.fits HST.out (by rw [HDV.out]; exact hd') (by rw [HDV.out]; omega))
              go_wp2_with fail
              go_roundw
              case rel => exact ⟨k + 1, m * base + d, false, by omega, by go_num, by rw [Int.natCast_add, Int.natCast_mul], rfl, by omega, by have := hn.out; rw [HDV.out] at this; exact this, HW2.out⟩
              case measure => simp [intOf]; omega
          · obtain rfl : m = 0 := HST.out.2 rfl
            have hn := Lib.hid (RefSt.over (by omega) HST.out (by rw [HDV.out]; exact hd') (.inl rfl))
            go_wp2_with fail
            go_roundw
            case rel => exact ⟨k + 1, 0, true, by omega, by go_num, rfl, rfl, by omega, hn.out, HW2.out⟩
            case measure => simp [intOf]; omega
      · obtain rfl : k = s.size := by omega
        cases ob
        · by_cases hmm : most < m
          · go_wp2_with fail
            go_ret3
            refine RefNum.mk' (numRes_over (by omega) HST.out.1.2.2 ?_) rfl rfl rfl HW.out
            by_cases hx : 18446744073709551616 ≤ numTo base s s.size
            · exact .inl hx
            · exact .inr (by rw [← HST.out.1.2.1 (by omega)]; exact hmm)
          · go_wp2_with fail
            go_ret3
            have hx : ¬ 18446744073709551616 ≤ numTo base s s.size := by simpa using HST.out.1.1.symm
            have hn := HST.out.1.2.1 (by omega)
            exact RefNum.mk' (numRes_good (by omega) HST.out.1.2.2 (by omega)) (by rw [hn]) rfl rfl HW.out
        · go_wp2_with fail
          go_ret3
          have hx : 18446744073709551616 ≤ numTo base s s.size := by simpa using HST.out.1.1.symm
          exact RefNum.mk' (numRes_over (by omega) HST.out.1.2.2 (.inl hx)) rfl rfl rfl HW.out
end Go.Proofs.YtpaeloadmjblpaaDoor
