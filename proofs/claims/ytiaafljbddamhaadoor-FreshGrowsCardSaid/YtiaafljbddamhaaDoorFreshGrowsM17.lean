/- The walk of FreshGrows. -/
import Derived.Test.YtiaafljbddamhaaDoorFreshGrowsM16
import Derived.Test.YtiaafljbddamhaaDoorFreshGrowsM9

namespace Go.Proofs.YtiaafljbddamhaaDoor
open Go.RowKit

def sp18 : ByteArray := ⟨#[112, 117, 98, 108, 105, 99, 44, 32, 77, 97, 120, 45, 65, 103, 101, 61, 54, 48, 48]⟩
theorem sp18_dirs : dirsD ⟨#[112, 117, 98, 108, 105, 99, 44, 32, 77, 97, 120, 45, 65, 103, 101, 61, 54, 48, 48]⟩ = ([⟨⟨#[112, 117, 98, 108, 105, 99]⟩, ⟨#[]⟩, false⟩, ⟨⟨#[109, 97, 120, 45, 97, 103, 101]⟩, ⟨#[54, 48, 48]⟩, true⟩], 0, 0) := by decide +kernel
theorem sp18_life : lifeD ⟨#[112, 117, 98, 108, 105, 99, 44, 32, 77, 97, 120, 45, 65, 103, 101, 61, 54, 48, 48]⟩ = 600 := by unfold lifeD; rw [sp18_dirs]; decide +kernel
theorem wait_at (f : Int) (n : Nat) (h : waitN f = n) (w : World) : Calls Tryd.prog 16 #[.int .i64 f] w fun e w' => e = .returned (.int .u64 (n : Int)) ∧ w = w' := h ▸ fresh_Wait f w
set_option maxHeartbeats 1600000 in
set_option maxRecDepth 100000 in
theorem speaks18 (w : World) : Calls Tryd.prog 13 #[] w fun e w' => e = .returned (.bool true) ∧ Below w.heap.size w w' := by
  have cL : ∀ W, Calls Tryd.prog 15 #[.string ⟨#[112, 117, 98, 108, 105, 99, 44, 32, 77, 97, 120, 45, 65, 103, 101, 61, 54, 48, 48]⟩] W fun e w' => e = .returned (.int .u64 600) ∧ Below W.heap.size W w' := fun W =>
    (fresh_Life _ W (by rw [sp18_dirs]; decide)).mono fun e w' ⟨he, hb⟩ => ⟨by rw [he, sp18_life]; rfl, hb⟩
  have c1 : ∀ W, Calls Tryd.prog 16 #[.int .i64 1] W fun e w' => e = .returned (.int .u64 60) ∧ W = w' := fun W => wait_at 1 60 (by decide) W
  have c2 : ∀ W, Calls Tryd.prog 16 #[.int .i64 2] W fun e w' => e = .returned (.int .u64 120) ∧ W = w' := fun W => wait_at 2 120 (by decide) W
  have c11 : ∀ W, Calls Tryd.prog 16 #[.int .i64 11] W fun e w' => e = .returned (.int .u64 61440) ∧ W = w' := fun W => wait_at 11 61440 (by decide) W
  have c12 : ∀ W, Calls Tryd.prog 16 #[.int .i64 12] W fun e w' => e = .returned (.int .u64 86400) ∧ W = w' := fun W => wait_at 12 86400 (by decide) W
  have CL := Lib.hid cL
  have C1 := Lib.hid c1
  have C2 := Lib.hid c2
  have C11 := Lib.hid c11
  have C12 := Lib.hid c12
  clear cL c1 c2 c11 c12
  go_enter Tryd.func13, Tryd.ntmps13
  go_wp2_with fail
  refine (CL.out _).mono ?_
  rintro e w1 ⟨rfl, hb1⟩
  go_wp2_with fail
  refine (C1.out _).mono ?_
  rintro e w2 ⟨rfl, rfl⟩
  go_wp2_with fail
  refine (C2.out _).mono ?_
  rintro e w2 ⟨rfl, rfl⟩
  go_wp2_with fail
  refine (C11.out _).mono ?_
  rintro e w2 ⟨rfl, rfl⟩
  go_wp2_with fail
  refine (C12.out _).mono ?_
  rintro e w2 ⟨rfl, rfl⟩
  go_wp2_with fail
  go_ret
  exact ⟨rfl, hb1⟩
theorem wait_small : ∀ k : Fin 17, waitN ((k.1 : Nat) : Int) ≤ waitN (((k.1 : Nat) : Int) + 1) ∧ 0 < waitN (((k.1 : Nat) : Int) + 1) := by decide
theorem wait_top {f : Int} (h : 17 < f) : waitN f = 86400 := by unfold waitN; rw [if_neg (by omega), if_pos h]
theorem wait_grow (m : Nat) : waitN (m : Int) ≤ waitN ((m : Int) + 1) ∧ 0 < waitN ((m : Int) + 1) := by
  by_cases h : m < 17
  · exact wait_small ⟨m, h⟩
  · rw [wait_top (f := (m : Int) + 1) (by omega)]
    exact ⟨waitN_le _, by omega⟩
theorem total_step (m : Nat) : totalN (m + 1) = totalN m + waitN ((m : Int) + 1) := by
  unfold totalN
  by_cases h : m < 17
  · rw [Nat.min_eq_left (by omega), Nat.min_eq_left (by omega), show m + 1 - 17 = 0 by omega, show m - 17 = 0 by omega, Nat.zero_mul, Nat.add_zero, Nat.add_zero]
    exact totN.eq_2 m
  · rw [Nat.min_eq_right (by omega), Nat.min_eq_right (by omega), wait_top (f := (m : Int) + 1) (by omega)]
    omega
theorem total_le {m : Nat} (h : m ≤ 2000000) : totalN m ≤ 200000000000 := by
  have := totN_le (min m 17)
  unfold totalN
  omega
set_option maxHeartbeats 1600000 in
set_option maxRecDepth 100000 in
theorem walkFreshGrows (f : Int) (w : World) (_ : Utf8Laid w) (_ : (Lit.int .i64 f).wf = true) :
    Calls Tryd.prog 5 #[.int .i64 f] w fun e w' => e = .returned (.bool true) ∧ Below w.heap.size w w' := by
  by_cases h0 : f < 0
  · go_enter Tryd.func5, Tryd.ntmps5
    go_wp2_with fail
    refine (speaks18 _).mono ?_
    rintro e w1 ⟨rfl, hb1⟩
    go_wp2_with fail
    go_ret
    exact ⟨rfl, hb1⟩
  · by_cases h1 : f > 1000000
    · go_enter Tryd.func5, Tryd.ntmps5
      go_wp2_with fail
      refine (speaks18 _).mono ?_
      rintro e w1 ⟨rfl, hb1⟩
      go_wp2_with fail
      go_ret
      exact ⟨rfl, hb1⟩
    · obtain ⟨m, rfl⟩ : ∃ m : Nat, f = (m : Int) := ⟨f.toNat, by omega⟩
      have hm : m ≤ 1000000 := by omega
      obtain ⟨g1, g2⟩ := wait_grow m
      have g3 := waitN_le ((m : Int) + 1)
      have g4 := total_step m
      have g5 := total_le (m := m) (by omega)
      have cA := Lib.hid (fun W => fresh_Wait (m : Int) W)
      have cB := Lib.hid (fun W => fresh_Wait ((m : Int) + 1) W)
      have cT := Lib.hid (fun W => fresh_Total m (by omega) W)
      have cT1' : ∀ W, Calls Tryd.prog 18 #[.int .i64 ((m : Int) + 1)] W fun e w' => e = .returned (.int .u64 (totalN (m + 1) : Int)) ∧ W = w' := fun W => fresh_Total (m + 1) (by omega) W
      have c0' : ∀ W, Calls Tryd.prog 18 #[.int .i64 0] W fun e w' => e = .returned (.int .u64 0) ∧ W = w' := fun W => fresh_Total 0 (by omega) W
      have cT1 := Lib.hid cT1'
      have c0 := Lib.hid c0'
      clear cT1' c0'
      generalize waitN (m : Int) = a at *
      generalize waitN ((m : Int) + 1) = b at *
      generalize totalN m = t at *
      generalize totalN (m + 1) = t1 at *
      have i1 : (a : Int) ≤ (b : Int) := by omega
      have i2 : (b : Int) ≤ 86400 := by omega
      have i3 : (b : Int) > 0 := by omega
      have e1 : ((t1 : Int) == (t : Int) + (b : Int)) = true := by rw [beq_iff_eq]; omega
      clear g1 g2 g4
      go_enter Tryd.func5, Tryd.ntmps5
      go_wp2_with fail
      refine (speaks18 _).mono ?_
      rintro e w1 ⟨rfl, hb1⟩
      go_wp2_with fail
      refine (cA.out _).mono ?_
      rintro e w2 ⟨rfl, rfl⟩
      go_wp2_with fail
      refine (cB.out _).mono ?_
      rintro e w2 ⟨rfl, rfl⟩
      go_wp2_with fail
      refine (cT1.out _).mono ?_
      rintro e w2 ⟨rfl, rfl⟩
      go_wp2_with fail
      refine (cT.out _).mono ?_
      rintro e w2 ⟨rfl, rfl⟩
      go_wp2_with fail
      refine (c0.out _).mono ?_
      rintro e w2 ⟨rfl, rfl⟩
      go_wp2_with fail
      go_ret
      exact ⟨rfl, hb1⟩
end Go.Proofs.YtiaafljbddamhaaDoor
