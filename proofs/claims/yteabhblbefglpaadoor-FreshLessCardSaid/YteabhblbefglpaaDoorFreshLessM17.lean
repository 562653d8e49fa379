/- fresh.Wait, Later, Total. -/
import Derived.Test.YteabhblbefglpaaDoorFreshLessM16
import Derived.Test.YteabhblbefglpaaDoorFreshLessM9

namespace Go.Proofs.YteabhblbefglpaaDoor
open Go.RowKit

def waitN (f : Int) : Nat := if f < 1 then 0 else if 17 < f then 86400 else min (60 * 2 ^ (f - 1).toNat) 86400
theorem waitN_le (f : Int) : waitN f ≤ 86400 := by
  unfold waitN
  split
  · omega
  · split
    · omega
    · exact Nat.min_le_right _ _
theorem len_most : Lib.bitLen (86400 : Int).toNat = 17 := by decide +kernel
theorem bits_Len_most (w : World) : Calls Tryd.prog 64 #[.int .u64 86400] w fun e w' => e = .returned (.int .i64 17) ∧ w = w' :=
  (Tryd.bits_Len 86400 w (by decide) (by decide)).mono fun e w' ⟨h, h2⟩ => ⟨by rw [h, len_most]; rfl, h2.symm⟩
set_option maxHeartbeats 3200000 in
set_option maxRecDepth 100000 in
theorem fresh_Wait (f : Int) (w : World) : Calls Tryd.prog 31 #[.int .i64 f] w fun e w' => e = .returned (.int .u64 (waitN f : Int)) ∧ w = w' := by
  have cL := Lib.hid bits_Len_most
  by_cases h1 : f < 1
  · have HX := Lib.hid (show waitN f = 0 by unfold waitN; rw [if_pos h1])
    go_enter Tryd.func31, Tryd.ntmps31
    go_wp2_with fail
    go_ret
    exact ⟨by rw [HX.out]; rfl, rfl⟩
  · by_cases h2 : 17 < f
    · have HX := Lib.hid (show waitN f = 86400 by unfold waitN; rw [if_neg h1, if_pos h2])
      have h3 : f > 17 := h2
      go_enter Tryd.func31, Tryd.ntmps31
      go_wp2_with fail
      refine (cL.out _).mono ?_
      rintro e w2 ⟨rfl, rfl⟩
      go_wp2_with fail
      go_ret
      exact ⟨by rw [HX.out]; rfl, rfl⟩
    · have hf : f = 1 ∨ f = 2 ∨ f = 3 ∨ f = 4 ∨ f = 5 ∨ f = 6 ∨ f = 7 ∨ f = 8 ∨ f = 9 ∨ f = 10 ∨ f = 11 ∨ f = 12 ∨ f = 13 ∨ f = 14 ∨ f = 15 ∨ f = 16 ∨ f = 17 := by omega
      clear h1 h2
      rcases hf with rfl | rfl | rfl | rfl | rfl | rfl | rfl | rfl | rfl | rfl | rfl | rfl | rfl | rfl | rfl | rfl | rfl <;>
      · go_enter Tryd.func31, Tryd.ntmps31
        go_wp2_with fail
        refine (cL.out _).mono ?_
        rintro e w2 ⟨rfl, rfl⟩
        go_wp2_with fail
        go_ret
        exact ⟨rfl, rfl⟩
def laterN (a b : Nat) : Nat := min (a + b) 18446744073709551615
set_option maxHeartbeats 3200000 in
theorem fresh_Later (a b : Nat) (ha : a < 18446744073709551616) (hb : b < 18446744073709551616) (w : World) : Calls Tryd.prog 35 #[.int .u64 (a : Int), .int .u64 (b : Int)] w fun e w' => e = .returned (.int .u64 (laterN a b : Int)) ∧ w = w' := by
  obtain ⟨s, c, hrun, hsum, hs, hc⟩ := bits_Add64 a b ha hb
  have hl : laterN a b = if c = 0 then s else 18446744073709551615 := by
    have := hsum.out
    unfold laterN
    split <;> omega
  have HL := Lib.hid hl
  clear hl
  by_cases h0 : c = 0
  · have HX := Lib.hid (HL.out.trans (if_pos h0))
    subst h0
    go_enter Tryd.func35, Tryd.ntmps35
    go_wp2_with fail
    go_ret
    exact ⟨by rw [HX.out]; rfl, rfl⟩
  · have hcI : (c : Int) > 0 := by omega
    have HX := Lib.hid (HL.out.trans (if_neg h0))
    clear h0
    go_enter Tryd.func35, Tryd.ntmps35
    go_wp2_with fail
    go_ret
    exact ⟨by rw [HX.out]; rfl, rfl⟩
/-- The first waits together. -/
def totN : Nat → Nat
  | 0 => 0
  | k + 1 => totN k + waitN ((k : Int) + 1)
theorem totN_le (k : Nat) : totN k ≤ k * 86400 := by
  induction k with
  | zero => exact Nat.le_refl _
  | succ k ih => have := waitN_le ((k : Int) + 1); rw [totN]; omega
/-- All waits behind so many failures. -/
def totalN (m : Nat) : Nat := totN (min m 17) + (m - 17) * 86400
set_option maxHeartbeats 3200000 in
set_option maxRecDepth 100000 in
theorem fresh_Total (m : Nat) (hm : m ≤ 2000000) (w : World) : Calls Tryd.prog 33 #[.int .i64 (m : Int)] w fun e w' => e = .returned (.int .u64 (totalN m : Int)) ∧ w = w' := by
  have cL := Lib.hid bits_Len_most
  have cW := Lib.hid (fun f W => fresh_Wait f W)
  have hmax : max (m : Int) 0 = (m : Int) := by omega
  by_cases h : m ≤ 17
  · have hmin : min (m : Int) 17 = (m : Int) := by omega
    have cM : ∀ W, Calls Tryd.prog 65 #[.int .u64 0, .int .u64 86400] W fun e w' => e = .returned (.tuple #[.int .u64 0, .int .u64 0]) ∧ W = w' := fun W => (bits_Mul64 0 86400 (by decide) (by decide) W).mono fun e w' ⟨hi, lo, he, hs, hl, hw⟩ => by
      have := hs.out
      obtain rfl : hi = 0 := by omega
      obtain rfl : lo = 0 := by omega
      exact ⟨he, hw⟩
    have CM := Lib.hid cM
    have htot : totalN m = totN m := by unfold totalN; rw [Nat.min_eq_left h, show m - 17 = 0 by omega]; simp
    have HT := Lib.hid htot
    have hle := totN_le m
    have hla : laterN (totN m) 0 = totN m := by unfold laterN; omega
    have cLa : ∀ W, Calls Tryd.prog 35 #[.int .u64 (totN m : Int), .int .u64 0] W fun e w' => e = .returned (.int .u64 (totN m : Int)) ∧ W = w' := fun W => (fresh_Later (totN m) 0 (by omega) (by omega) W).mono fun e w' ⟨he, hw⟩ => ⟨by rw [he, hla], hw⟩
    have CLA := Lib.hid cLa
    clear cM htot hla cLa
    go_enter Tryd.func33, Tryd.ntmps33
    go_wp2_with fail
    refine (cL.out _).mono ?_
    rintro e w2 ⟨rfl, rfl⟩
    go_wp2_with fail
    go_loopw [2, 12] (fun t x wr => ∃ k : Nat, k ≤ m ∧ x = .int .i64 k ∧ t = .int .u64 (totN k : Int) ∧ w = wr) (fun _ x _ => m - (intOf x).toNat)
    case atStart => exact ⟨0, Nat.zero_le _, rfl, rfl, rfl⟩
    case round =>
      obtain ⟨k, hk, rfl, rfl, rfl⟩ := hrel
      by_cases hlt : k < m
      · have hkI : (k : Int) < (m : Int) := by omega
        have h1 := totN_le k
        have h2 := waitN_le ((k : Int) + 1)
        have hst : totN (k + 1) = totN k + waitN ((k : Int) + 1) := rfl
        have cWk := Lib.hid (cW.out ((k : Int) + 1))
        generalize waitN ((k : Int) + 1) = wn at *
        have HST := Lib.hid hst
        clear hst
        generalize totN k = tk at *
        go_wp2_with fail
        refine (cWk.out _).mono ?_
        rintro e w3 ⟨rfl, rfl⟩
        go_wp2_with fail
        go_roundw
        case rel => exact ⟨k + 1, by omega, by go_num, by rw [HST.out]; go_num, by first | rfl | trivial⟩
        case measure => simp [intOf]; omega
      · obtain rfl : k = m := by omega
        go_wp2_with fail
        refine (CM.out _).mono ?_
        rintro e w3 ⟨rfl, rfl⟩
        go_wp2_with fail
        refine (CLA.out _).mono ?_
        rintro e w3 ⟨rfl, rfl⟩
        go_wp2_with fail
        go_ret
        exact ⟨by rw [HT.out]; rfl, rfl⟩
  · have hmin : min (m : Int) 17 = 17 := by omega
    have hx : ((m - 17 : Nat) : Int) = (m : Int) - 17 := by omega
    have cM : ∀ W, Calls Tryd.prog 65 #[.int .u64 ((m : Int) - 17), .int .u64 86400] W fun e w' => e = .returned (.tuple #[.int .u64 0, .int .u64 (((m - 17) * 86400 : Nat) : Int)]) ∧ W = w' := fun W => hx ▸ (bits_Mul64 (m - 17) 86400 (by omega) (by decide) W).mono fun e w' ⟨hi, lo, he, hs, hl, hw⟩ => by
      have := hs.out
      obtain rfl : hi = 0 := by omega
      obtain rfl : lo = (m - 17) * 86400 := by omega
      exact ⟨he, hw⟩
    have CM := Lib.hid cM
    have htot : totalN m = laterN (totN 17) ((m - 17) * 86400) := by
      have := totN_le 17
      unfold totalN laterN
      rw [Nat.min_eq_right (by omega)]
      omega
    have HT := Lib.hid htot
    have hle := totN_le 17
    have CLA := Lib.hid (fun W => fresh_Later (totN 17) ((m - 17) * 86400) (by omega) (by omega) W)
    have hmu : (m - 17) * 86400 ≤ 200000000000 := by omega
    clear cM htot hx
    obtain ⟨mu, hmu0⟩ : ∃ mu, mu = (m - 17) * 86400 := ⟨_, rfl⟩
    rw [← hmu0] at CM HT CLA hmu
    clear hmu0
    obtain ⟨t17, hT17⟩ : ∃ t, totN 17 = t := ⟨_, rfl⟩
    rw [hT17] at HT CLA hle
    have hmI : ¬ (m : Int) ≤ 17 := by omega
    have hx1 : (0 : Int) ≤ (m : Int) - 17 := by omega
    go_enter Tryd.func33, Tryd.ntmps33
    go_wp2_with fail
    refine (cL.out _).mono ?_
    rintro e w2 ⟨rfl, rfl⟩
    go_wp2_with fail
    go_loopw [2, 12] (fun t x wr => ∃ k : Nat, k ≤ 17 ∧ x = .int .i64 k ∧ t = .int .u64 (totN k : Int) ∧ w = wr) (fun _ x _ => 17 - (intOf x).toNat)
    case atStart => exact ⟨0, Nat.zero_le _, rfl, rfl, rfl⟩
    case round =>
      obtain ⟨k, hk, rfl, rfl, rfl⟩ := hrel
      by_cases hlt : k < 17
      · have hkI : (k : Int) < 17 := by omega
        have h1 := totN_le k
        have h2 := waitN_le ((k : Int) + 1)
        have hst : totN (k + 1) = totN k + waitN ((k : Int) + 1) := rfl
        have cWk := Lib.hid (cW.out ((k : Int) + 1))
        generalize waitN ((k : Int) + 1) = wn at *
        have HST := Lib.hid hst
        clear hst hT17
        generalize totN k = tk at *
        go_wp2_with fail
        refine (cWk.out _).mono ?_
        rintro e w3 ⟨rfl, rfl⟩
        go_wp2_with fail
        go_roundw
        case rel => exact ⟨k + 1, by omega, by go_num, by rw [HST.out]; go_num, by first | rfl | trivial⟩
        case measure => simp [intOf]; omega
      · obtain rfl : k = 17 := by omega
        rw [hT17]
        clear hT17
        go_wp2_with fail
        refine (CM.out _).mono ?_
        rintro e w3 ⟨rfl, rfl⟩
        go_wp2_with fail
        refine (CLA.out _).mono ?_
        rintro e w3 ⟨rfl, rfl⟩
        go_wp2_with fail
        go_ret
        exact ⟨by rw [HT.out]; rfl, rfl⟩
end Go.Proofs.YteabhblbefglpaaDoor

/- The walk of FreshGrows. -/
namespace Go.Proofs.YteabhblbefglpaaDoor
open Go.RowKit

def sp18 : ByteArray := ⟨#[112, 117, 98, 108, 105, 99, 44, 32, 77, 97, 120, 45, 65, 103, 101, 61, 54, 48, 48]⟩
theorem sp18_dirs : dirsD ⟨#[112, 117, 98, 108, 105, 99, 44, 32, 77, 97, 120, 45, 65, 103, 101, 61, 54, 48, 48]⟩ = ([⟨⟨#[112, 117, 98, 108, 105, 99]⟩, ⟨#[]⟩, false⟩, ⟨⟨#[109, 97, 120, 45, 97, 103, 101]⟩, ⟨#[54, 48, 48]⟩, true⟩], 0, 0) := by decide +kernel
theorem sp18_life : lifeD ⟨#[112, 117, 98, 108, 105, 99, 44, 32, 77, 97, 120, 45, 65, 103, 101, 61, 54, 48, 48]⟩ = 600 := by unfold lifeD; rw [sp18_dirs]; decide +kernel
theorem wait_at (f : Int) (n : Nat) (h : waitN f = n) (w : World) : Calls Tryd.prog 31 #[.int .i64 f] w fun e w' => e = .returned (.int .u64 (n : Int)) ∧ w = w' := h ▸ fresh_Wait f w
set_option maxHeartbeats 1600000 in
set_option maxRecDepth 100000 in
theorem speaks18 (w : World) : Calls Tryd.prog 28 #[] w fun e w' => e = .returned (.bool true) ∧ Below w.heap.size w w' := by
  have cL : ∀ W, Calls Tryd.prog 30 #[.string ⟨#[112, 117, 98, 108, 105, 99, 44, 32, 77, 97, 120, 45, 65, 103, 101, 61, 54, 48, 48]⟩] W fun e w' => e = .returned (.int .u64 600) ∧ Below W.heap.size W w' := fun W =>
    (fresh_Life _ W (by rw [sp18_dirs]; decide)).mono fun e w' ⟨he, hb⟩ => ⟨by rw [he, sp18_life]; rfl, hb⟩
  have c1 : ∀ W, Calls Tryd.prog 31 #[.int .i64 1] W fun e w' => e = .returned (.int .u64 60) ∧ W = w' := fun W => wait_at 1 60 (by decide) W
  have c2 : ∀ W, Calls Tryd.prog 31 #[.int .i64 2] W fun e w' => e = .returned (.int .u64 120) ∧ W = w' := fun W => wait_at 2 120 (by decide) W
  have c11 : ∀ W, Calls Tryd.prog 31 #[.int .i64 11] W fun e w' => e = .returned (.int .u64 61440) ∧ W = w' := fun W => wait_at 11 61440 (by decide) W
  have c12 : ∀ W, Calls Tryd.prog 31 #[.int .i64 12] W fun e w' => e = .returned (.int .u64 86400) ∧ W = w' := fun W => wait_at 12 86400 (by decide) W
  have CL := Lib.hid cL
  have C1 := Lib.hid c1
  have C2 := Lib.hid c2
  have C11 := Lib.hid c11
  have C12 := Lib.hid c12
  clear cL c1 c2 c11 c12
  go_enter Tryd.func28, Tryd.ntmps28
  go_wp2_with fail
  refine (CL.out _).mono ?_
  rintro e w1 ⟨rfl, hb1⟩
  go_wp2_with fail
  refine (C1.out _).mono ?_
  rintro e w2 ⟨rfl, rfl⟩
  go_wp2_with fail
  refine (C2.out _).mono ?_
  rintro e w2 ⟨rfl, rfl⟩
  go_wp2_with fail
  refine (C11.out _).mono ?_
  rintro e w2 ⟨rfl, rfl⟩
  go_wp2_with fail
  refine (C12.out _).mono ?_
  rintro e w2 ⟨rfl, rfl⟩
  go_wp2_with fail
  go_ret
  exact ⟨rfl, hb1⟩
theorem wait_small : ∀ k : Fin 17, waitN ((k.1 : Nat) : Int) ≤ waitN (((k.1 : Nat) : Int) + 1) ∧ 0 < waitN (((k.1 : Nat) : Int) + 1) := by decide
theorem wait_top {f : Int} (h : 17 < f) : waitN f = 86400 := by unfold waitN; rw [if_neg (by omega), if_pos h]
theorem wait_grow (m : Nat) : waitN (m : Int) ≤ waitN ((m : Int) + 1) ∧ 0 < waitN ((m : Int) + 1) := by
  by_cases h : m < 17
  · exact wait_small ⟨m, h⟩
  · rw [wait_top (f := (m : Int) + 1) (by omega)]
    exact ⟨waitN_le _, by omega⟩
theorem total_step (m : Nat) : totalN (m + 1) = totalN m + waitN ((m : Int) + 1) := by
  unfold totalN
  by_cases h : m < 17
  · rw [Nat.min_eq_left (by omega), Nat.min_eq_left (by omega), show m + 1 - 17 = 0 by omega, show m - 17 = 0 by omega, Nat.zero_mul, Nat.add_zero, Nat.add_zero]
    exact totN.eq_2 m
  · rw [Nat.min_eq_right (by omega), Nat.min_eq_right (by omega), wait_top (f := (m : Int) + 1) (by omega)]
    omega
theorem total_le {m : Nat} (h : m ≤ 2000000) : totalN m ≤ 200000000000 := by
  have := totN_le (min m 17)
  unfold totalN
  omega
set_option maxHeartbeats 1600000 in
set_option maxRecDepth 100000 in
theorem walkFreshGrows (f : Int) (w : World) (_ : Utf8Laid w) (_ : (Lit.int .i64 f).wf = true) :
    Calls Tryd.prog 10 #[.int .i64 f] w fun e w' => e = .returned (.bool true) ∧ Below w.heap.size w w' := by
  by_cases h0 : f < 0
  · go_enter Tryd.func10, Tryd.ntmps10
    go_wp2_with fail
    refine (speaks18 _).mono ?_
    rintro e w1 ⟨rfl, hb1⟩
    go_wp2_with fail
    go_ret
    exact ⟨rfl, hb1⟩
  · by_cases h1 : f > 1000000
    · go_enter Tryd.func10, Tryd.ntmps10
      go_wp2_with fail
      refine (speaks18 _).mono ?_
      rintro e w1 ⟨rfl, hb1⟩
      go_wp2_with fail
      go_ret
      exact ⟨rfl, hb1⟩
    · obtain ⟨m, rfl⟩ : ∃ m : Nat, f = (m : Int) := ⟨f.toNat, by omega⟩
      have hm : m ≤ 1000000 := by omega
      obtain ⟨g1, g2⟩ := wait_grow m
      have g3 := waitN_le ((m : Int) + 1)
      have g4 := total_step m
      have g5 := total_le (m := m) (by omega)
      have cA := Lib.hid (fun W => fresh_Wait (m : Int) W)
      have cB := Lib.hid (fun W => fresh_Wait ((m : Int) + 1) W)
      have cT := Lib.hid (fun W => fresh_Total m (by omega) W)
      have cT1' : ∀ W, Calls Tryd.prog 33 #[.int .i64 ((m : Int) + 1)] W fun e w' => e = .returned (.int .u64 (totalN (m + 1) : Int)) ∧ W = w' := fun W => fresh_Total (m + 1) (by omega) W
      have c0' : ∀ W, Calls Tryd.prog 33 #[.int .i64 0] W fun e w' => e = .returned (.int .u64 0) ∧ W = w' := fun W => fresh_Total 0 (by omega) W
      have cT1 := Lib.hid cT1'
      have c0 := Lib.hid c0'
      clear cT1' c0'
      generalize waitN (m : Int) = a at *
      generalize waitN ((m : Int) + 1) = b at *
      generalize totalN m = t at *
      generalize totalN (m + 1) = t1 at *
      have i1 : (a : Int) ≤ (b : Int) := by omega
      have i2 : (b : Int) ≤ 86400 := by omega
      have i3 : (b : Int) > 0 := by omega
      have e1 : ((t1 : Int) == (t : Int) + (b : Int)) = true := by rw [beq_iff_eq]; omega
      clear g1 g2 g4
      go_enter Tryd.func10, Tryd.ntmps10
      go_wp2_with fail
      refine (speaks18 _).mono ?_
      rintro e w1 ⟨rfl, hb1⟩
      go_wp2_with fail
      refine (cA.out _).mono ?_
      rintro e w2 ⟨rfl, rfl⟩
      go_wp2_with fail
      refine (cB.out _).mono ?_
      rintro e w2 ⟨rfl, rfl⟩
      go_wp2_with fail
      refine (cT1.out _).mono ?_
      rintro e w2 ⟨rfl, rfl⟩
      go_wp2_with fail
      refine (cT.out _).mono ?_
      rintro e w2 ⟨rfl, rfl⟩
      go_wp2_with fail
      refine (c0.out _).mono ?_
      rintro e w2 ⟨rfl, rfl⟩
      go_wp2_with fail
      go_ret
      exact ⟨rfl, hb1⟩
end Go.Proofs.YteabhblbefglpaaDoor

/- The walk of FreshLess. -/
namespace Go.Proofs.YteabhblbefglpaaDoor
open Go.RowKit

theorem less_cat1 (s : ByteArray) : s ++ ⟨#[44, 110, 111, 45, 115, 116, 111, 114, 101]⟩ = s ++ ofL [44] ++ ⟨#[110, 111, 45, 115, 116, 111, 114, 101]⟩ := by
  rw [ByteArray.append_assoc]
  rfl
theorem less_dirs1 {s : ByteArray} (hs : s.size ≤ 800) (h : (dirsD s).2.1 = 0) : ((dirsD s).1.length < 32 → dirsD (s ++ ⟨#[44, 110, 111, 45, 115, 116, 111, 114, 101]⟩) = ((dirsD s).1 ++ [(⟨noStore, ⟨#[]⟩, false⟩ : It)], 0, 0)) ∧ ((dirsD s).1.length = 32 → (dirsD (s ++ ⟨#[44, 110, 111, 45, 115, 116, 111, 114, 101]⟩)).2.1 = 15) := by
  rw [less_cat1]
  refine dirs_more ?_ h (by decide +kernel) (stepD_ok (by decide +kernel) (by decide +kernel)) (stepD_many (x := (⟨noStore, ⟨#[]⟩, false⟩ : It)) (by decide +kernel) (by decide +kernel))
  rw [← less_cat1, ByteArray.size_append]
  have : (⟨#[44, 110, 111, 45, 115, 116, 111, 114, 101]⟩ : ByteArray).size ≤ 20 := by decide
  omega
theorem less_cat2 (s : ByteArray) : s ++ ⟨#[44, 32, 78, 111, 45, 67, 97, 99, 104, 101, 61, 34, 120, 34]⟩ = s ++ ofL [44] ++ ⟨#[32, 78, 111, 45, 67, 97, 99, 104, 101, 61, 34, 120, 34]⟩ := by
  rw [ByteArray.append_assoc]
  rfl
theorem less_dirs2 {s : ByteArray} (hs : s.size ≤ 800) (h : (dirsD s).2.1 = 0) : ((dirsD s).1.length < 32 → dirsD (s ++ ⟨#[44, 32, 78, 111, 45, 67, 97, 99, 104, 101, 61, 34, 120, 34]⟩) = ((dirsD s).1 ++ [(⟨noCache, ⟨#[120]⟩, true⟩ : It)], 0, 0)) ∧ ((dirsD s).1.length = 32 → (dirsD (s ++ ⟨#[44, 32, 78, 111, 45, 67, 97, 99, 104, 101, 61, 34, 120, 34]⟩)).2.1 = 15) := by
  rw [less_cat2]
  refine dirs_more ?_ h (by decide +kernel) (stepD_ok (by decide +kernel) (by decide +kernel)) (stepD_many (x := (⟨noCache, ⟨#[120]⟩, true⟩ : It)) (by decide +kernel) (by decide +kernel))
  rw [← less_cat2, ByteArray.size_append]
  have : (⟨#[44, 32, 78, 111, 45, 67, 97, 99, 104, 101, 61, 34, 120, 34]⟩ : ByteArray).size ≤ 20 := by decide
  omega
theorem less_cat3 (s : ByteArray) : s ++ ⟨#[44, 120, 45, 121, 61, 122]⟩ = s ++ ofL [44] ++ ⟨#[120, 45, 121, 61, 122]⟩ := by
  rw [ByteArray.append_assoc]
  rfl
theorem less_dirs3 {s : ByteArray} (hs : s.size ≤ 800) (h : (dirsD s).2.1 = 0) : ((dirsD s).1.length < 32 → dirsD (s ++ ⟨#[44, 120, 45, 121, 61, 122]⟩) = ((dirsD s).1 ++ [(⟨⟨#[120, 45, 121]⟩, ⟨#[122]⟩, true⟩ : It)], 0, 0)) ∧ ((dirsD s).1.length = 32 → (dirsD (s ++ ⟨#[44, 120, 45, 121, 61, 122]⟩)).2.1 = 15) := by
  rw [less_cat3]
  refine dirs_more ?_ h (by decide +kernel) (stepD_ok (by decide +kernel) (by decide +kernel)) (stepD_many (x := (⟨⟨#[120, 45, 121]⟩, ⟨#[122]⟩, true⟩ : It)) (by decide +kernel) (by decide +kernel))
  rw [← less_cat3, ByteArray.size_append]
  have : (⟨#[44, 120, 45, 121, 61, 122]⟩ : ByteArray).size ≤ 20 := by decide
  omega
theorem dirs_short {s : ByteArray} (h : (dirsD s).2.1 = 0) : (dirsD s).1.length ≤ 32 := by
  unfold dirsD at h ⊢
  split at h
  · cases h
  · rename_i h0
    rw [if_neg h0]
    exact goG_len stepD_right _ _ _ (by simp)
theorem life_of {s : ByteArray} {l : List It} (h : dirsD s = (l, 0, 0)) : lifeD s = lifeG l 86400 false := by unfold lifeD; rw [h]; rfl
theorem life_is (t : ByteArray) (n : Nat) (h : lifeD t = n) (w : World) : Calls Tryd.prog 30 #[.string t] w fun e w' => e = .returned (.int .u64 (n : Int)) ∧ Below w.heap.size w w' := h ▸ fresh_Life t w (dirs_sizes t)
theorem less_long (s : ByteArray) (w : World) (h : 800 < s.size) : Calls Tryd.prog 8 #[.string s] w fun e w' => e = .returned (.bool true) ∧ Below w.heap.size w w' := by
  have e1 : (s.size : Int) > 800 := by omega
  go_enter Tryd.func8, Tryd.ntmps8
  go_wp2_with fail
  refine (speaks18 _).mono ?_
  rintro e w1 ⟨rfl, hb1⟩
  go_wp2_with fail
  go_ret
  exact ⟨rfl, hb1⟩
set_option maxHeartbeats 1600000 in
set_option maxRecDepth 100000 in
theorem less_walk (s : ByteArray) (w : World) (h : s.size ≤ 800) : Calls Tryd.prog 8 #[.string s] w fun e w' => e = .returned (.bool true) ∧ Below w.heap.size w w' := by
  have e1 : ¬ (s.size : Int) > 800 := by omega
  have cD := Lib.hid (fun s W => fresh_Directives s W)
  have cL := Lib.hid (fun s W => fresh_Life s W (dirs_sizes s))
  have hD := Lib.hid (fun h0 => @less_dirs1 s h h0)
  have hD2 := Lib.hid (fun h0 => @less_dirs2 s h h0)
  have hD3 := Lib.hid (fun h0 => @less_dirs3 s h h0)
  have zl1 : (⟨#[44, 110, 111, 45, 115, 116, 111, 114, 101]⟩ : ByteArray).size ≤ 20 := by decide
  have zl2 : (⟨#[44, 32, 78, 111, 45, 67, 97, 99, 104, 101, 61, 34, 120, 34]⟩ : ByteArray).size ≤ 20 := by decide
  have zl3 : (⟨#[44, 120, 45, 121, 61, 122]⟩ : ByteArray).size ≤ 20 := by decide
  go_enter Tryd.func8, Tryd.ntmps8
  go_wp2_with fail
  refine (speaks18 _).mono ?_
  rintro e w1 ⟨rfl, hb1⟩
  go_wp2_with fail
  refine (cD.out _ _).mono ?_
  rintro e w2 ⟨hb2, hh⟩
  have hb12 := Bt hb1 hb2
  rcases hh with ⟨hk, v, rfl, hown⟩ | ⟨hk, v, n, rfl, hv⟩
  · obtain ⟨pa, c, rfl, _, _, _⟩ := hown.sl
    clear hown
    have hlen := dirs_short hk
    have h1 := hD.out hk
    have h2 := hD2.out hk
    have h3 := hD3.out hk
    have H1 := Lib.hid h1
    have H2 := Lib.hid h2
    have H3 := Lib.hid h3
    have HS := Lib.hid (show lifeD s = lifeG (dirsD s).1 86400 false from if_pos hk)
    clear h1 h2 h3 hD hD2 hD3 hk
    generalize (dirsD s).1 = l at *
    go_wp2_with fail
    refine (cD.out _ _).mono ?_
    rintro e w3 ⟨hb3, hh⟩
    have hb13 := Bt hb12 hb3
    rcases hh with ⟨hk, v, rfl, hown⟩ | ⟨hk, v, n, rfl, hv⟩
    · obtain ⟨pa, c, rfl, _, _, _⟩ := hown.sl
      clear hown
      have hl32 : l.length < 32 := by
        rcases Nat.lt_or_ge l.length 32 with h' | h'
        · exact h'
        · have := H1.out.2 (by omega)
          rw [hk] at this
          cases this
      have hd1 := H1.out.1 hl32
      have hl1 := life_of hd1
      have hl2 := life_of (H2.out.1 hl32)
      have hl3 := life_of (H3.out.1 hl32)
      rw [lifeG_end (.inl rfl)] at hl1
      rw [lifeG_end (.inr rfl)] at hl2
      rw [lifeG_other (by decide) (by decide), ← HS.out] at hl3
      have hge : 300 ≤ lifeD s := by rw [HS.out]; exact lifeG_least _ _ _ (by omega)
      have hnz : ((dirsD (s ++ ⟨#[44, 110, 111, 45, 115, 116, 111, 114, 101]⟩)).1.length : Int) ≠ 0 := by rw [hd1]; simp; omega
      have c1 := fun W => life_is _ 300 hl1 W
      have c2 := fun W => life_is _ 300 hl2 W
      have c3 := fun W => life_is _ (lifeD s) hl3 W
      have c4 := Lib.hid (fun W => cL.out s W)
      have C1 := Lib.hid c1
      have C2 := Lib.hid c2
      have C3 := Lib.hid c3
      clear c1 c2 c3 hd1 hl1 hl2 hl3 hk H1 H2 H3 HS
      generalize lifeD s = ls at *
      generalize (dirsD (s ++ ⟨#[44, 110, 111, 45, 115, 116, 111, 114, 101]⟩)).1.length = ll at *
      have hz : ((ll : Int) == 0) = false := by rw [beq_eq_false_iff_ne]; exact hnz
      have hgI : (300 : Int) ≤ (ls : Int) := by omega
      clear hnz
      go_wp2_with fail
      refine (C1.out _).mono ?_
      rintro e w4 ⟨rfl, hb4⟩
      have hb14 := Bt hb13 hb4
      go_wp2_with fail
      refine (C2.out _).mono ?_
      rintro e w5 ⟨rfl, hb5⟩
      have hb15 := Bt hb14 hb5
      go_wp2_with fail
      refine (C3.out _).mono ?_
      rintro e w6 ⟨rfl, hb6⟩
      have hb16 := Bt hb15 hb6
      go_wp2_with fail
      refine (c4.out _).mono ?_
      rintro e w7 ⟨rfl, hb7⟩
      have hb17 := Bt hb16 hb7
      go_wp2_with fail
      refine (c4.out _).mono ?_
      rintro e w8 ⟨rfl, hb8⟩
      have hb18 := Bt hb17 hb8
      go_wp2_with fail
      go_ret
      exact ⟨by simp, hb18⟩
    · obtain ⟨q, rfl⟩ := hv.ne_nil
      clear hv
      go_wp2_with fail
      go_ret
      exact ⟨rfl, hb13⟩
  · obtain ⟨q, rfl⟩ := hv.ne_nil
    have cE := fun W => life_is s 86400 (if_neg hk) W
    have CE := Lib.hid cE
    clear hv cE hk
    go_wp2_with fail
    refine (CE.out _).mono ?_
    rintro e w4 ⟨rfl, hb4⟩
    have hb14 := Bt hb12 hb4
    go_wp2_with fail
    go_ret
    exact ⟨rfl, hb14⟩
theorem walkFreshLess (s : ByteArray) (w : World) (_ : Utf8Laid w) (_ : s.size ≤ maxLen) : Calls Tryd.prog 8 #[.string s] w fun e w' => e = .returned (.bool true) ∧ Below w.heap.size w w' := by
  by_cases h : s.size ≤ 800
  · exact less_walk s w h
  · exact less_long s w (by omega)
end Go.Proofs.YteabhblbefglpaaDoor
