/- The walk of FreshGrows. -/
import Derived.Test.YtiaafljbddamhaaDoorFreshWaitsM16
import Derived.Test.YtiaafljbddamhaaDoorFreshWaitsM9

namespace Go.Proofs.YtiaafljbddamhaaDoor
open Go.RowKit

def sp18 : ByteArray := ⟨#[112, 117, 98, 108, 105, 99, 44, 32, 77, 97, 120, 45, 65, 103, 101, 61, 54, 48, 48]⟩
theorem sp18_dirs : dirsD ⟨#[112, 117, 98, 108, 105, 99, 44, 32, 77, 97, 120, 45, 65, 103, 101, 61, 54, 48, 48]⟩ = ([⟨⟨#[112, 117, 98, 108, 105, 99]⟩, ⟨#[]⟩, false⟩, ⟨⟨#[109, 97, 120, 45, 97, 103, 101]⟩, ⟨#[54, 48, 48]⟩, true⟩], 0, 0) := by decide +kernel
theorem sp18_life : lifeD ⟨#[112, 117, 98, 108, 105, 99, 44, 32, 77, 97, 120, 45, 65, 103, 101, 61, 54, 48, 48]⟩ = 600 := by unfold lifeD; rw [sp18_dirs]; decide +kernel
theorem wait_at (f : Int) (n : Nat) (h : waitN f = n) (w : World) : Calls Tryd.prog 16 #[.int .i64 f] w fun e w' => e = .returned (.int .u64 (n : Int)) ∧ w = w' := h ▸ fresh_Wait f w
set_option maxHeartbeats 1600000 in
set_option maxRecDepth 100000 in
theorem speaks18 (w : World) : Calls Tryd.prog 13 #[] w fun e w' => e = .returned (.bool true) ∧ Below w.heap.size w w' := by
  have cL : ∀ W, Calls Tryd.prog 15 #[.string ⟨#[112, 117, 98, 108, 105, 99, 44, 32, 77, 97, 120, 45, 65, 103, 101, 61, 54, 48, 48]⟩] W fun e w' => e = .returned (.int .u64 600) ∧ Below W.heap.size W w' := fun W =>
    (fresh_Life _ W (by rw [sp18_dirs]; decide)).mono fun e w' ⟨he, hb⟩ => ⟨by rw [he, sp18_life]; rfl, hb⟩
  have c1 : ∀ W, Calls Tryd.prog 16 #[.int .i64 1] W fun e w' => e = .returned (.int .u64 60) ∧ W = w' := fun W => wait_at 1 60 (by decide) W
  have c2 : ∀ W, Calls Tryd.prog 16 #[.int .i64 2] W fun e w' => e = .returned (.int .u64 120) ∧ W = w' := fun W => wait_at 2 120 (by decide) W
  have c11 : ∀ W, Calls Tryd.prog 16 #[.int .i64 11] W fun e w' => e = .returned (.int .u64 61440) ∧ W = w' := fun W => wait_at 11 61440 (by decide) W
  have c12 : ∀ W, Calls Tryd.prog 16 #[.int .i64 12] W fun e w' => e = .returned (.int .u64 86400) ∧ W = w' := fun W => wait_at 12 86400 (by decide) W
  have CL := Lib.hid cL
  have C1 := Lib.hid c1
  have C2 := Lib.hid c2
  have C11 := Lib.hid c11
  have C12 := Lib.hid c12
  clear cL c1 c2 c11 c12
  go_enter Tryd.func13, Tryd.ntmps13
  go_wp2_with fail
  refine (CL.out _).mono ?_
  rintro e w1 ⟨rfl, hb1⟩
  go_wp2_with fail
  refine (C1.out _).mono ?_
  rintro e w2 ⟨rfl, rfl⟩
  go_wp2_with fail
  refine (C2.out _).mono ?_
  rintro e w2 ⟨rfl, rfl⟩
  go_wp2_with fail
  refine (C11.out _).mono ?_
  rintro e w2 ⟨rfl, rfl⟩
  go_wp2_with fail
  refine (C12.out _).mono ?_
  rintro e w2 ⟨rfl, rfl⟩
  go_wp2_with fail
  go_ret
  exact ⟨rfl, hb1⟩
theorem wait_small : ∀ k : Fin 17, waitN ((k.1 : Nat) : Int) ≤ waitN (((k.1 : Nat) : Int) + 1) ∧ 0 < waitN (((k.1 : Nat) : Int) + 1) := by decide
theorem wait_top {f : Int} (h : 17 < f) : waitN f = 86400 := by unfold waitN; rw [if_neg (by omega), if_pos h]
theorem wait_grow (m : Nat) : waitN (m : Int) ≤ waitN ((m : Int) + 1) ∧ 0 < waitN ((m : Int) + 1) := by
  by_cases h : m < 17
  · exact wait_small ⟨m, h⟩
  · rw [wait_top (f := (m : Int) + 1) (by omega)]
    exact ⟨waitN_le _, by omega⟩
theorem total_step (m : Nat) : totalN (m + 1) = totalN m + waitN ((m : Int) + 1) := by
  unfold totalN
  by_cases h : m < 17
  · rw [Nat.min_eq_left (by omega), Nat.min_eq_left (by omega), show m + 1 - 17 = 0 by omega, show m - 17 = 0 by omega, Nat.zero_mul, Nat.add_zero, Nat.add_zero]
    exact totN.eq_2 m
  · rw [Nat.min_eq_right (by omega), Nat.min_eq_right (by omega), wait_top (f := (m : Int) + 1) (by omega)]
    omega
theorem total_le {m : Nat} (h : m ≤ 2000000) : totalN m ≤ 200000000000 := by
  have := totN_le (min m 17)
  unfold totalN
  omega
set_option maxHeartbeats 1600000 in
set_option maxRecDepth 100000 in
theorem walkFreshGrows (f : Int) (w : World) (_ : Utf8Laid w) (_ : (Lit.int .i64 f).wf = true) :
    Calls Tryd.prog 5 #[.int .i64 f] w fun e w' => e = .returned (.bool true) ∧ Below w.heap.size w w' := by
  by_cases h0 : f < 0
  · go_enter Tryd.func5, Tryd.ntmps5
    go_wp2_with fail
    refine (speaks18 _).mono ?_
    rintro e w1 ⟨rfl, hb1⟩
    go_wp2_with fail
    go_ret
    exact ⟨rfl, hb1⟩
  · by_cases h1 : f > 1000000
    · go_enter Tryd.func5, Tryd.ntmps5
      go_wp2_with fail
      refine (speaks18 _).mono ?_
      rintro e w1 ⟨rfl, hb1⟩
      go_wp2_with fail
      go_ret
      exact ⟨rfl, hb1⟩
    · obtain ⟨m, rfl⟩ : ∃ m : Nat, f = (m : Int) := ⟨f.toNat, by omega⟩
      have hm : m ≤ 1000000 := by omega
      obtain ⟨g1, g2⟩ := wait_grow m
      have g3 := waitN_le ((m : Int) + 1)
      have g4 := total_step m
      have g5 := total_le (m := m) (by omega)
      have cA := Lib.hid (fun W => fresh_Wait (m : Int) W)
      have cB := Lib.hid (fun W => fresh_Wait ((m : Int) + 1) W)
      have cT := Lib.hid (fun W => fresh_Total m (by omega) W)
      have cT1' : ∀ W, Calls Tryd.prog 18 #[.int .i64 ((m : Int) + 1)] W fun e w' => e = .returned (.int .u64 (totalN (m + 1) : Int)) ∧ W = w' := fun W => fresh_Total (m + 1) (by omega) W
      have c0' : ∀ W, Calls Tryd.prog 18 #[.int .i64 0] W fun e w' => e = .returned (.int .u64 0) ∧ W = w' := fun W => fresh_Total 0 (by omega) W
      have cT1 := Lib.hid cT1'
      have c0 := Lib.hid c0'
      clear cT1' c0'
      generalize waitN (m : Int) = a at *
      generalize waitN ((m : Int) + 1) = b at *
      generalize totalN m = t at *
      generalize totalN (m + 1) = t1 at *
      have i1 : (a : Int) ≤ (b : Int) := by omega
      have i2 : (b : Int) ≤ 86400 := by omega
      have i3 : (b : Int) > 0 := by omega
      have e1 : ((t1 : Int) == (t : Int) + (b : Int)) = true := by rw [beq_iff_eq]; omega
      clear g1 g2 g4
      go_enter Tryd.func5, Tryd.ntmps5
      go_wp2_with fail
      refine (speaks18 _).mono ?_
      rintro e w1 ⟨rfl, hb1⟩
      go_wp2_with fail
      refine (cA.out _).mono ?_
      rintro e w2 ⟨rfl, rfl⟩
      go_wp2_with fail
      refine (cB.out _).mono ?_
      rintro e w2 ⟨rfl, rfl⟩
      go_wp2_with fail
      refine (cT1.out _).mono ?_
      rintro e w2 ⟨rfl, rfl⟩
      go_wp2_with fail
      refine (cT.out _).mono ?_
      rintro e w2 ⟨rfl, rfl⟩
      go_wp2_with fail
      refine (c0.out _).mono ?_
      rintro e w2 ⟨rfl, rfl⟩
      go_wp2_with fail
      go_ret
      exact ⟨rfl, hb1⟩
end Go.Proofs.YtiaafljbddamhaaDoor

/- The reference of chapter 18: Wait, Later. -/
namespace Go.Proofs.YtiaafljbddamhaaDoor
open Go.RowKit

theorem wait_is {f : Int} (h : 1 ≤ f) : waitN f = min (60 * 2 ^ (f - 1).toNat) 86400 := by
  by_cases h2 : 17 < f
  · rw [wait_top h2]
    have : 2 ^ 17 ≤ 2 ^ (f - 1).toNat := Nat.pow_le_pow_right (by decide) (by omega)
    omega
  · unfold waitN
    rw [if_neg (by omega), if_neg h2]
set_option maxHeartbeats 1600000 in
set_option maxRecDepth 100000 in
theorem ref18_Wait (f : Int) (w : World) (hf : f ≤ 9223372036854775807) : Calls Tryd.prog 17 #[.int .i64 f] w fun e w' => e = .returned (.int .u64 (waitN f : Int)) ∧ w = w' := by
  by_cases h1 : f < 1
  · have HX := Lib.hid (show waitN f = 0 by unfold waitN; rw [if_pos h1])
    go_enter Tryd.func17, Tryd.ntmps17
    go_wp2_with fail
    go_ret
    exact ⟨by rw [HX.out]; rfl, rfl⟩
  · have HW := Lib.hid (wait_is (f := f) (by omega))
    have h1' : ¬ f < 1 := h1
    go_enter Tryd.func17, Tryd.ntmps17
    go_wp2_with fail
    go_loopw [3, 4] (fun n x wr => ∃ k : Nat, (k : Int) + 1 ≤ f ∧ k ≤ 11 ∧ x = .int .i64 ((k : Int) + 1) ∧ n = .int .u64 ((60 * 2 ^ k : Nat) : Int) ∧ w = wr) (fun _ x _ => 12 - (intOf x).toNat)
    case atStart => exact ⟨0, by omega, by omega, rfl, rfl, rfl⟩
    case round =>
      obtain ⟨k, hk, hk11, rfl, rfl, rfl⟩ := hrel
      have hpow : 60 * 2 ^ (k + 1) = 60 * 2 ^ k * 2 := by rw [Nat.pow_succ]; omega
      have hsm : 60 * 2 ^ k ≤ 60 * 2 ^ 11 := Nat.mul_le_mul_left _ (Nat.pow_le_pow_right (by decide) hk11)
      have h11 : k = 11 → 86400 ≤ 60 * 2 ^ k := fun h => by subst h; decide
      have hend : (k : Int) + 1 = f → waitN f = min (60 * 2 ^ k) 86400 := fun h => by rw [HW.out, show (f - 1).toNat = k by omega]
      have hbig : 86400 ≤ 60 * 2 ^ k → waitN f = 86400 := fun h => by
        have : 2 ^ k ≤ 2 ^ (f - 1).toNat := Nat.pow_le_pow_right (by decide) (by omega)
        rw [HW.out]
        omega
      have HP := Lib.hid hpow
      have HE := Lib.hid hend
      have HB := Lib.hid hbig
      have H11 := Lib.hid h11
      have hsm2 : 60 * 2 ^ k ≤ 122880 := hsm
      clear hpow hend hbig hsm h11
      obtain ⟨n, hn⟩ : ∃ n, 60 * 2 ^ k = n := ⟨_, rfl⟩
      rw [hn] at HP HE HB H11 hsm2 ⊢
      clear hn
      by_cases h2 : (k : Int) + 1 < f
      · by_cases h3 : n < 86400
        · have h3I : (n : Int) < 86400 := by omega
          have hk12 : k + 1 ≤ 11 := by
            rcases Nat.lt_or_ge k 11 with h | h
            · exact h
            · have := H11.out (by omega); omega
          go_wp2_with fail
          go_roundw
          case rel => exact ⟨k + 1, by omega, hk12, by go_num, by rw [HP.out]; go_num, by first | rfl | trivial⟩
          case measure => simp [intOf]; omega
        · have h3I : ¬ (n : Int) < 86400 := by omega
          have HX := Lib.hid (HB.out (by omega))
          by_cases h4 : n = 86400
          · subst h4
            clear h3 h3I
            go_wp2_with fail
            go_ret
            exact ⟨by rw [HX.out]; rfl, rfl⟩
          · have h5 : (n : Int) > 86400 := by omega
            go_wp2_with fail
            go_ret
            exact ⟨by rw [HX.out]; rfl, rfl⟩
      · have he := HE.out (by omega)
        by_cases h4 : 86400 < n
        · have h5 : (n : Int) > 86400 := by omega
          have HX := Lib.hid (he.trans (Nat.min_eq_right (by omega)))
          clear he
          go_wp2_with fail
          go_ret
          exact ⟨by rw [HX.out]; rfl, rfl⟩
        · have h5 : ¬ (n : Int) > 86400 := by omega
          have HX := Lib.hid (he.trans (Nat.min_eq_left (by omega)))
          clear he
          go_wp2_with fail
          go_ret
          exact ⟨by rw [HX.out]; rfl, rfl⟩
set_option maxHeartbeats 1600000 in
theorem ref18_Later (a b : Nat) (ha : a < 18446744073709551616) (hb : b < 18446744073709551616) (w : World) : Calls Tryd.prog 21 #[.int .u64 (a : Int), .int .u64 (b : Int)] w fun e w' => e = .returned (.int .u64 (laterN a b : Int)) ∧ w = w' := by
  by_cases h : b > 18446744073709551615 - a
  · have HX := Lib.hid (show laterN a b = 18446744073709551615 by unfold laterN; omega)
    have hI : (b : Int) > 18446744073709551615 - (a : Int) := by omega
    have h0 : (0 : Int) ≤ 18446744073709551615 - (a : Int) := by omega
    clear h
    go_enter Tryd.func21, Tryd.ntmps21
    go_wp2_with fail
    go_ret
    exact ⟨by rw [HX.out]; rfl, rfl⟩
  · have HX := Lib.hid (show laterN a b = a + b by unfold laterN; omega)
    have hI : ¬ (b : Int) > 18446744073709551615 - (a : Int) := by omega
    have h0 : (0 : Int) ≤ 18446744073709551615 - (a : Int) := by omega
    have hs : (a : Int) + (b : Int) ≤ 18446744073709551615 := by omega
    clear h
    go_enter Tryd.func21, Tryd.ntmps21
    go_wp2_with fail
    go_ret
    exact ⟨by rw [HX.out]; rfl, rfl⟩
end Go.Proofs.YtiaafljbddamhaaDoor

/- The walk of FreshWaits: Total for any number, the reference's Total. -/
namespace Go.Proofs.YtiaafljbddamhaaDoor
open Go.RowKit

def totalI (m : Nat) : Nat := if 18446744073709551616 ≤ (m - 17) * 86400 then 18446744073709551615 else laterN (totN (min m 17)) ((m - 17) * 86400)
theorem tot20 : totN 20 = 900420 := by decide +kernel
theorem tot17 : totN 17 = 641220 := by decide +kernel
theorem totalI_small {m : Nat} (h : m ≤ 17) : totalI m = totN m := by
  have := totN_le m
  unfold totalI laterN
  rw [Nat.min_eq_left h, show m - 17 = 0 by omega, Nat.zero_mul, if_neg (by decide)]
  omega
theorem totalI_big {m : Nat} (h : 17 < m) : totalI m = if 18446744073709551616 ≤ (m - 17) * 86400 then 18446744073709551615 else laterN 641220 ((m - 17) * 86400) := by
  unfold totalI
  rw [Nat.min_eq_right (by omega), tot17]
set_option maxHeartbeats 3200000 in
set_option maxRecDepth 100000 in
theorem fresh_TotalI (f : Int) (hf : f ≤ 9223372036854775807) (w : World) : Calls Tryd.prog 18 #[.int .i64 f] w fun e w' => e = .returned (.int .u64 (totalI (max f 0).toNat : Int)) ∧ w = w' := by
  obtain ⟨m, hm⟩ : ∃ m : Nat, (max f 0).toNat = m := ⟨_, rfl⟩
  have hmax : max f 0 = (m : Int) := by omega
  have hmz : m ≤ 9223372036854775807 := by omega
  rw [hm]
  clear hm
  have cL := Lib.hid bits_Len_most
  have cW := Lib.hid (fun f W => fresh_Wait f W)
  by_cases h : m ≤ 17
  · have hmin : min (m : Int) 17 = (m : Int) := by omega
    have cM : ∀ W, Calls Tryd.prog 51 #[.int .u64 0, .int .u64 86400] W fun e w' => e = .returned (.tuple #[.int .u64 0, .int .u64 0]) ∧ W = w' := fun W => (bits_Mul64 0 86400 (by decide) (by decide) W).mono fun e w' ⟨hi, lo, he, hs, hl, hw⟩ => by
      have := hs.out
      obtain rfl : hi = 0 := by omega
      obtain rfl : lo = 0 := by omega
      exact ⟨he, hw⟩
    have CM := Lib.hid cM
    have HT := Lib.hid (totalI_small h)
    have hle := totN_le m
    have hla : laterN (totN m) 0 = totN m := by unfold laterN; omega
    have cLa : ∀ W, Calls Tryd.prog 20 #[.int .u64 (totN m : Int), .int .u64 0] W fun e w' => e = .returned (.int .u64 (totN m : Int)) ∧ W = w' := fun W => (fresh_Later (totN m) 0 (by omega) (by omega) W).mono fun e w' ⟨he, hw⟩ => ⟨by rw [he, hla], hw⟩
    have CLA := Lib.hid cLa
    clear cM hla cLa
    go_enter Tryd.func18, Tryd.ntmps18
    go_wp2_with fail
    refine (cL.out _).mono ?_
    rintro e w2 ⟨rfl, rfl⟩
    go_wp2_with fail
    go_loopw [2, 12] (fun t x wr => ∃ k : Nat, k ≤ m ∧ x = .int .i64 k ∧ t = .int .u64 (totN k : Int) ∧ w = wr) (fun _ x _ => m - (intOf x).toNat)
    case atStart => exact ⟨0, Nat.zero_le _, rfl, rfl, rfl⟩
    case round =>
      obtain ⟨k, hk, rfl, rfl, rfl⟩ := hrel
      by_cases hlt : k < m
      · have hkI : (k : Int) < (m : Int) := by omega
        have h1 := totN_le k
        have h2 := waitN_le ((k : Int) + 1)
        have hst : totN (k + 1) = totN k + waitN ((k : Int) + 1) := totN.eq_2 k
        have cWk := Lib.hid (cW.out ((k : Int) + 1))
        generalize waitN ((k : Int) + 1) = wn at *
        have HST := Lib.hid hst
        clear hst
        generalize totN k = tk at *
        go_wp2_with fail
        refine (cWk.out _).mono ?_
        rintro e w3 ⟨rfl, rfl⟩
        go_wp2_with fail
        go_roundw
        case rel => exact ⟨k + 1, by omega, by go_num, by rw [HST.out]; go_num, by first | rfl | trivial⟩
        case measure => simp [intOf]; omega
      · obtain rfl : k = m := by omega
        go_wp2_with fail
        refine (CM.out _).mono ?_
        rintro e w3 ⟨rfl, rfl⟩
        go_wp2_with fail
        refine (CLA.out _).mono ?_
        rintro e w3 ⟨rfl, rfl⟩
        go_wp2_with fail
        go_ret
        exact ⟨by rw [HT.out]; rfl, rfl⟩
  · have hmin : min (m : Int) 17 = 17 := by omega
    have hx : ((m - 17 : Nat) : Int) = (m : Int) - 17 := by omega
    have cM : ∀ W, Calls Tryd.prog 51 #[.int .u64 ((m : Int) - 17), .int .u64 86400] W fun e w' => ∃ hi lo : Nat, e = .returned (.tuple #[.int .u64 (hi : Int), .int .u64 (lo : Int)]) ∧ Hid (hi * 18446744073709551616 + lo = (m - 17) * 86400) ∧ lo < 18446744073709551616 ∧ W = w' := fun W => hx ▸ bits_Mul64 (m - 17) 86400 (by omega) (by decide) W
    have CM := Lib.hid cM
    have HT := Lib.hid (totalI_big (m := m) (by omega))
    have CLA := Lib.hid (fun b hb W => fresh_Later 641220 b (by omega) hb W)
    have h17 := tot17
    clear cM hx
    have hmI : ¬ (m : Int) ≤ 17 := by omega
    have hx1 : (0 : Int) ≤ (m : Int) - 17 := by omega
    have H17 := Lib.hid h17
    clear h17
    go_enter Tryd.func18, Tryd.ntmps18
    go_wp2_with fail
    refine (cL.out _).mono ?_
    rintro e w2 ⟨rfl, rfl⟩
    go_wp2_with fail
    go_loopw [2, 12] (fun t x wr => ∃ k : Nat, k ≤ 17 ∧ x = .int .i64 k ∧ t = .int .u64 (totN k : Int) ∧ w = wr) (fun _ x _ => 17 - (intOf x).toNat)
    case atStart => exact ⟨0, Nat.zero_le _, rfl, rfl, rfl⟩
    case round =>
      obtain ⟨k, hk, rfl, rfl, rfl⟩ := hrel
      by_cases hlt : k < 17
      · have hkI : (k : Int) < 17 := by omega
        have h1 := totN_le k
        have h2 := waitN_le ((k : Int) + 1)
        have hst : totN (k + 1) = totN k + waitN ((k : Int) + 1) := totN.eq_2 k
        have cWk := Lib.hid (cW.out ((k : Int) + 1))
        generalize waitN ((k : Int) + 1) = wn at *
        have HST := Lib.hid hst
        clear hst
        generalize totN k = tk at *
        go_wp2_with fail
        refine (cWk.out _).mono ?_
        rintro e w3 ⟨rfl, rfl⟩
        go_wp2_with fail
        go_roundw
        case rel => exact ⟨k + 1, by omega, by go_num, by rw [HST.out]; go_num, by first | rfl | trivial⟩
        case measure => simp [intOf]; omega
      · obtain rfl : k = 17 := by omega
        rw [H17.out]
        go_wp2_with fail
        refine (CM.out _).mono ?_
        rintro e w3 ⟨hi, lo, rfl, hs, hl, rfl⟩
        by_cases h0 : hi = 0
        · subst h0
          have hs' := hs.out
          rw [Nat.zero_mul, Nat.zero_add] at hs'
          have HX := Lib.hid (HT.out.trans ((if_neg (by omega)).trans (congrArg (laterN 641220) hs'.symm)))
          clear hs'
          have CLB := Lib.hid (CLA.out lo hl)
          go_wp2_with fail
          refine (CLB.out _).mono ?_
          rintro e w3 ⟨rfl, rfl⟩
          go_wp2_with fail
          go_ret
          exact ⟨by rw [HX.out]; rfl, rfl⟩
        · have HX := Lib.hid (HT.out.trans (if_pos (by have := hs.out; omega)))
          have h0I : (hi : Int) > 0 := by omega
          clear h0
          go_wp2_with fail
          go_ret
          exact ⟨by rw [HX.out]; rfl, rfl⟩
theorem totalI_17 {m : Nat} (h : m ≤ 20) : totalI m = totN m := by
  by_cases h2 : m ≤ 17
  · exact totalI_small h2
  · have hm : m = 18 ∨ m = 19 ∨ m = 20 := by omega
    rcases hm with rfl | rfl | rfl <;> decide +kernel
set_option maxHeartbeats 3200000 in
set_option maxRecDepth 100000 in
theorem ref18_Total (f : Int) (hf : f ≤ 9223372036854775807) (w : World) : Calls Tryd.prog 19 #[.int .i64 f] w fun e w' => e = .returned (.int .u64 (totalI (max f 0).toNat : Int)) ∧ w = w' := by
  have cW := Lib.hid (fun k : Nat => fun W => ref18_Wait ((k : Int) + 1) W)
  obtain ⟨m, hm⟩ : ∃ m : Nat, (max f 0).toNat = m := ⟨_, rfl⟩
  rw [hm]
  have HM := Lib.hid hm
  clear hm
  go_enter Tryd.func19, Tryd.ntmps19
  go_wp2_with fail
  go_loopw [3, 4] (fun t x wr => ∃ k : Nat, ((k : Int) ≤ f ∨ k = 0) ∧ k ≤ 20 ∧ x = .int .i64 ((k : Int) + 1) ∧ t = .int .u64 (totN k : Int) ∧ w = wr) (fun _ x _ => 22 - (intOf x).toNat)
  case atStart => exact ⟨0, .inr rfl, by omega, rfl, rfl, rfl⟩
  case round =>
    obtain ⟨k, hk, hk20, rfl, rfl, rfl⟩ := hrel
    by_cases h20 : k = 20
    · subst h20
      rw [tot20]
      by_cases hf20 : f ≤ 20
      · have HX := Lib.hid (show totalI m = 900420 by have := HM.out; rw [show m = 20 by omega, totalI_17 (by omega), tot20])
        clear hk
        go_wp2_with fail
        go_ret
        exact ⟨by rw [HX.out]; rfl, rfl⟩
      · have hm := HM.out
        have hb := totalI_big (m := m) (by omega)
        by_cases hq : f - 20 > 213503982334590
        · have HX := Lib.hid (show totalI m = 18446744073709551615 by rw [hb]; unfold laterN; split <;> omega)
          clear hb hk hm
          go_wp2_with fail
          go_ret
          exact ⟨by rw [HX.out]; rfl, rfl⟩
        · have HX := Lib.hid (show (totalI m : Int) = 900420 + (f - 20) * 86400 by rw [hb]; unfold laterN; split <;> omega)
          have h0 : 0 ≤ f - 20 := by omega
          have h1 : 900420 + (f - 20) * 86400 ≤ 18446744073709551615 := by omega
          have h2 : (f - 20) * 86400 ≤ 18446744073709551615 := by omega
          have h3 : 0 ≤ (f - 20) * 86400 := by omega
          clear hb hk hm
          go_wp2_with fail
          go_ret
          exact ⟨by rw [HX.out]; rfl, rfl⟩
    · by_cases hlt : (k : Int) + 1 ≤ f
      · have hk19 : (k : Int) + 1 ≤ 20 := by omega
        have h1 := totN_le k
        have h2 := waitN_le ((k : Int) + 1)
        have hst : totN (k + 1) = totN k + waitN ((k : Int) + 1) := totN.eq_2 k
        have cWk := Lib.hid (fun W => cW.out k W (by omega))
        generalize waitN ((k : Int) + 1) = wn at *
        have HST := Lib.hid hst
        clear hst
        generalize totN k = tk at *
        go_wp2_with fail
        refine (cWk.out _).mono ?_
        rintro e w3 ⟨rfl, rfl⟩
        go_wp2_with fail
        go_roundw
        case rel => exact ⟨k + 1, .inl (by omega), by omega, by go_num, by rw [HST.out]; go_num, by first | rfl | trivial⟩
        case measure => simp [intOf]; omega
      · have hle := totN_le k
        have HX := Lib.hid (show totalI m = totN k by have := HM.out; rw [show m = k by omega, totalI_17 hk20])
        have hf20 : f ≤ 20 := by omega
        clear hk
        go_wp2_with fail
        go_ret
        exact ⟨by rw [HX.out]; rfl, rfl⟩
end Go.Proofs.YtiaafljbddamhaaDoor

/- The walk of FreshWaits. -/
namespace Go.Proofs.YtiaafljbddamhaaDoor
open Go.RowKit

set_option maxHeartbeats 1600000 in
set_option maxRecDepth 100000 in
theorem walkFreshWaits (f a b : Int) (w : World) (_ : Utf8Laid w) (wf : (Lit.int .i64 f).wf = true) (wa : (Lit.int .u64 a).wf = true) (wb : (Lit.int .u64 b).wf = true) :
    Calls Tryd.prog 4 #[.int .i64 f, .int .u64 a, .int .u64 b] w fun e w' => e = .returned (.bool true) ∧ Below w.heap.size w w' := by
  have hf : -9223372036854775808 ≤ f ∧ f ≤ 9223372036854775807 := by simpa [Lit.wf, IntKind.min, IntKind.max, IntKind.signed, IntKind.bits] using wf
  have ha : 0 ≤ a ∧ a ≤ 18446744073709551615 := by simpa [Lit.wf, IntKind.min, IntKind.max, IntKind.signed, IntKind.bits] using wa
  have hb : 0 ≤ b ∧ b ≤ 18446744073709551615 := by simpa [Lit.wf, IntKind.min, IntKind.max, IntKind.signed, IntKind.bits] using wb
  obtain ⟨x, rfl⟩ : ∃ x : Nat, a = (x : Int) := ⟨a.toNat, by omega⟩
  obtain ⟨y, rfl⟩ : ∃ y : Nat, b = (y : Int) := ⟨b.toNat, by omega⟩
  have c1 := Lib.hid (fun W => fresh_Wait f W)
  have c2 := Lib.hid (fun W => ref18_Wait f W hf.2)
  have c3 := Lib.hid (fun W => fresh_TotalI f hf.2 W)
  have c4 := Lib.hid (fun W => ref18_Total f hf.2 W)
  have c5 := Lib.hid (fun W => fresh_Later x y (by omega) (by omega) W)
  have c6 := Lib.hid (fun W => ref18_Later x y (by omega) (by omega) W)
  clear wf wa wb
  generalize waitN f = p at *
  generalize totalI (max f 0).toNat = q at *
  generalize laterN x y = r at *
  go_enter Tryd.func4, Tryd.ntmps4
  go_wp2_with fail
  refine (speaks18 _).mono ?_
  rintro e w1 ⟨rfl, hb1⟩
  go_wp2_with fail
  refine (c1.out _).mono ?_
  rintro e w2 ⟨rfl, rfl⟩
  go_wp2_with fail
  refine (c2.out _).mono ?_
  rintro e w2 ⟨rfl, rfl⟩
  go_wp2_with fail
  refine (c3.out _).mono ?_
  rintro e w2 ⟨rfl, rfl⟩
  go_wp2_with fail
  refine (c4.out _).mono ?_
  rintro e w2 ⟨rfl, rfl⟩
  go_wp2_with fail
  refine (c5.out _).mono ?_
  rintro e w2 ⟨rfl, rfl⟩
  go_wp2_with fail
  refine (c6.out _).mono ?_
  rintro e w2 ⟨rfl, rfl⟩
  go_wp2_with fail
  go_ret
  exact ⟨by simp, hb1⟩
end Go.Proofs.YtiaafljbddamhaaDoor
