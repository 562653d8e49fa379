/- puny.Adapt, threshold, digit. -/
import Derived.Test.YtkeankhacjgdhaaPunyPlain
namespace Go.Proofs.Ytkeankhacjgdhaa
open Go.RowKit

theorem adaptZ_neg {delta count : Int} {first : Bool} (h : delta < 0 ∨ count < 1) : adaptZ delta count first = 0 := by unfold adaptZ; rw [if_pos h]
theorem adaptZ_nat (d c : Nat) (first : Bool) (h : 1 ≤ c) : adaptZ (d : Int) (c : Int) first = (adaptN d c first : Int) := by
  unfold adaptZ; rw [if_neg (by omega)]; simp
theorem wrap64_inA (x : Int) (h1 : -9223372036854775808 ≤ x) (h2 : x ≤ 9223372036854775807) : wrap64 x = x := by unfold wrap64; omega
/-- What the loop begins with, as the walk reckons it. -/
theorem adapt0_int (d c : Nat) (first : Bool) (h : d ≤ 1099511627776) : (if first then wrap64 ((d : Int) / 700 + (d : Int) / 700 / (c : Int)) else wrap64 ((d : Int) / 2 + (d : Int) / 2 / (c : Int))) = ((adapt0 d c first : Nat) : Int) := by
  have h1 : ∀ x : Nat, x / c ≤ x := fun x => Nat.div_le_self _ _
  have e : ∀ x : Nat, ((x / c : Nat) : Int) = (x : Int) / (c : Int) := fun x => by simp
  cases first
  · have := h1 (d / 2)
    have e2 := e (d / 2)
    have e3 : ((d / 2 : Nat) : Int) = (d : Int) / 2 := by simp
    rw [e3] at e2
    simp only [adapt0, Bool.false_eq_true, if_false]
    have e4 : (0 : Int) ≤ (d : Int) / 2 / (c : Int) := by rw [← e2]; exact Int.natCast_nonneg _
    have e5 : (d : Int) / 2 / (c : Int) ≤ (d : Int) / 2 := by rw [← e2, ← e3]; exact Int.ofNat_le.2 (h1 _)
    generalize (d : Int) / 2 / (c : Int) = z at *
    rw [wrap64_inA _ (by omega) (by omega)]
    rw [Int.natCast_add, e2, e3]
  · have := h1 (d / 700)
    have e2 := e (d / 700)
    have e3 : ((d / 700 : Nat) : Int) = (d : Int) / 700 := by simp
    rw [e3] at e2
    simp only [adapt0, if_true]
    have e4 : (0 : Int) ≤ (d : Int) / 700 / (c : Int) := by rw [← e2]; exact Int.natCast_nonneg _
    have e5 : (d : Int) / 700 / (c : Int) ≤ (d : Int) / 700 := by rw [← e2, ← e3]; exact Int.ofNat_le.2 (h1 _)
    generalize (d : Int) / 700 / (c : Int) = z at *
    rw [wrap64_inA _ (by omega) (by omega)]
    rw [Int.natCast_add, e2, e3]
set_option maxHeartbeats 1600000 in
set_option maxRecDepth 100000 in
theorem puny_Adapt (delta count : Int) (first : Bool) (w : World) (h1 : delta ≤ 1099511627776) (h2 : count ≤ 1099511627776) :
    Calls Try.prog 6 #[.int .i64 delta, .int .i64 count, .bool first] w fun e w' => e = .returned (.int .i64 (adaptZ delta count first)) ∧ w = w' := by
  by_cases hd : delta < 0
  · have HV := Lib.hid (adaptZ_neg (first := first) (count := count) (.inl hd))
    go_enter Try.func6, Try.ntmps6
    go_wp2_with fail
    go_ret
    exact ⟨ret_i64 HV.out.symm, rfl⟩
  by_cases hc : count < 1
  · have HV := Lib.hid (adaptZ_neg (first := first) (delta := delta) (.inr hc))
    go_enter Try.func6, Try.ntmps6
    go_wp2_with fail
    go_ret
    exact ⟨ret_i64 HV.out.symm, rfl⟩
  obtain ⟨d, rfl⟩ : ∃ d : Nat, delta = d := ⟨delta.toNat, by omega⟩
  obtain ⟨c, rfl⟩ : ∃ c : Nat, count = c := ⟨count.toNat, by omega⟩
  have hc1 : 1 ≤ c := by omega
  rw [adaptZ_nat d c first hc1]
  have hz := adapt0_le d c first
  have hst := adapt0_int d c first (by omega)
  have hR : adaptL (adapt0 d c first) (adapt0 d c first) 0 = adaptN d c first := rfl
  have HR := Lib.hid hR
  clear hR hd hc
  generalize adaptN d c first = R at *
  generalize adapt0 d c first = D at *
  cases first
  all_goals
    simp only [Bool.false_eq_true, if_false, if_true, reduceIte] at hst
    have hs := congrArg (Value.int .i64) hst
    have HST := Lib.hid hs
    clear hst hs
    go_enter Try.func6, Try.ntmps6
    go_wp2_with fail
    go_loop [0, 7] (fun x y => ∃ f e k : Nat, x = .int .i64 e ∧ y = .int .i64 k ∧ e ≤ f ∧ k + e ≤ D ∧ adaptL f e k = R) (fun x _ => (intOf x).toNat)
    case atStart => exact ⟨D, D, 0, HST.out, rfl, Nat.le_refl _, by omega, HR.out⟩
    case round =>
      obtain ⟨f, e, k, rfl, rfl, hef, hke, hg⟩ := hrel
      by_cases h5 : 455 < e
      · obtain ⟨f', rfl⟩ : ∃ f', f = f' + 1 := ⟨f - 1, by omega⟩
        rw [adaptL_go h5] at hg
        have HG := Lib.hid hg
        have h5I : (e : Int) > 455 := by omega
        clear hg
        go_wp2_with fail
        go_round
        case rel => exact ⟨f', e / 35, k + 36, by simp, by simp, by omega, by omega, HG.out⟩
        case measure => simp [intOf]; omega
      · rw [adaptL_end h5] at hg
        have h5I : ¬ (e : Int) > 455 := by omega
        have hq : 36 * e / (e + 38) ≤ 36 * e := Nat.div_le_self _ _
        have hqc : ((36 * e / (e + 38) : Nat) : Int) = 36 * (e : Int) / ((e : Int) + 38) := by simp
        have HG := Lib.hid hg
        generalize 36 * e / (e + 38) = q at *
        have HQ := Lib.hid hqc
        clear hg hqc
        go_wp2_with fail
        rw [← HQ.out]
        go_wp2_with fail
        go_ret
        exact ⟨ret_i64 (by rw [wrap64_inA _ (by omega) (by omega), ← HG.out]; simp), rfl⟩
end Go.Proofs.Ytkeankhacjgdhaa
