/- The reference's number of chapter 11. -/
import Derived.Test.YtpaeloadmjblpaaDoorRefQuad
namespace Go.Proofs.YtpaeloadmjblpaaDoor
open Go.RowKit

theorem min_step {b m v k : Nat} {d : ByteArray} (hb : 2 ≤ b) (h : m = min (numTo b d k) p40) (hv : valN (byteAt d k).toNat = v) :
    (m * b + v ≤ p40 → m * b + v = min (numTo b d (k + 1)) p40) ∧ (p40 < m * b + v → p40 = min (numTo b d (k + 1)) p40) := by
  have hs := numTo_succ b d k
  rw [hv] at hs
  by_cases hle : numTo b d k ≤ p40
  · rw [Nat.min_eq_left hle] at h
    subst h
    rw [hs]
    exact ⟨fun h => by omega, fun h => by omega⟩
  · have hm : m = p40 := by rw [h]; omega
    subst hm
    have h2 : numTo b d k * 1 ≤ numTo b d k * b := Nat.mul_le_mul_left _ (by omega)
    have h3 : p40 * 2 ≤ p40 * b := Nat.mul_le_mul_left _ hb
    have h4 : 0 < p40 := by unfold p40; omega
    exact ⟨fun h => by omega, fun _ => by omega⟩
theorem mul_le45 {m b v : Nat} (hm : m ≤ p40) (hb : b ≤ 16) (hv : v < 16) : m * b + v ≤ 18446744073709551615 := by
  have h1 : m * b ≤ p40 * 16 := Nat.mul_le_mul hm hb
  unfold p40 at h1
  omega
set_option maxHeartbeats 3200000 in
set_option maxRecDepth 100000 in
theorem ref11_number (s : ByteArray) (hs : s.size ≤ 16777216) (hbad : badQ s = none) (w : World) : Calls Tryd.prog 28 #[.string s] w fun e w' => Below w.heap.size w w' ∧ e = .returned (.int .u64 (min (numQ s) p40 : Nat)) := by
  have HVAL := Lib.hid (badQ_digits hbad)
  have cB' := fun W => ref11_base s hs W
  have h0 : s.size ≠ 0 := fun h => by rw [badQ_empty h] at hbad; cases hbad
  have hsz : (formQ s).2.1 + (digsQ s).size = s.size := by
    rcases digsQ_size s with h | h
    · exact h
    · exact absurd h h0
  have hbyte : ∀ k, k < (digsQ s).size → byteAt s ((formQ s).2.1 + k) = byteAt (digsQ s) k := fun k hk => by
    unfold digsQ
    rw [byte_ext _ _ _ (by omega)]
  have hnum : numQ s = numTo (formQ s).1 (digsQ s) (digsQ s).size := rfl
  obtain ⟨hb2, hb16⟩ := base_two s
  have cB := Lib.hid cB'
  have cP := Lib.hid (fun W => ref11_power 5 (by omega) W)
  have HNUM := Lib.hid hnum
  have HBYTE := Lib.hid hbyte
  clear hbad h0 cB' hnum hbyte
  generalize (formQ s).1 = b at *
  generalize (formQ s).2.1 = sk at *
  generalize digsQ s = d at *
  obtain ⟨p, hp⟩ : ∃ p, p = p40 := ⟨_, rfl⟩
  have cP2 : ∀ W : World, Calls Tryd.prog 29 #[.int .i64 5] W fun e w' => e = .returned (.int .u64 (p : Int)) ∧ w' = W := fun W => by rw [hp]; exact cP.out W
  have CP := Lib.hid cP2
  have HP := Lib.hid hp
  clear cP cP2 hp
  go_enter Tryd.func28, Tryd.ntmps28
  go_wp2_with fail
  refine (cB.out _).mono ?_
  rintro e w2 ⟨rfl, rfl⟩
  go_wp2_with fail
  go_loopw [5, 6] (fun n x wr => ∃ k m : Nat, k ≤ d.size ∧ x = .int .i64 (sk + k : Nat) ∧ n = .int .u64 m ∧ m = min (numTo b d k) p40 ∧ Below w.heap.size w wr) (fun _ x _ => s.size - (intOf x).toNat)
  case atStart => exact ⟨0, 0, Nat.zero_le _, by simp, rfl, by simp [numTo], Below.refl _ _⟩
  case round =>
    obtain ⟨k, m, hkl, rfl, rfl, hm, hbr⟩ := hrel
    by_cases hlt : k < d.size
    · have hv := HVAL.out k hlt
      have hby := HBYTE.out k hlt
      have hext := extract_one (s := s) (i := sk + k) (by omega)
      rw [hby] at hext
      have hone := num_one (byteAt d k) (by omega)
      have cH := Lib.hid (fun W => ref_Number (ofL [byteAt d k]) 16 15 W (by rw [ofL_size]; simp) (by omega) (by omega) (by omega))
      obtain ⟨hst1, hst2⟩ := min_step hb2 hm rfl
      have hm45 := fun hv => @mul_le45 m b (valN (byteAt d k).toNat) (by omega) hb16 hv
      have hm46 := hm45 (by omega)
      generalize valN (byteAt d k).toNat = v at *
      generalize ofL [byteAt d k] = q at *
      have hmI : (m : Int) * (b : Int) + (v : Int) ≤ 18446744073709551615 := by rw [← Int.natCast_mul]; omega
      have hm0 : (0 : Int) ≤ (m : Int) * (b : Int) := by rw [← Int.natCast_mul]; omega
      have HST1 := Lib.hid hst1
      have HST2 := Lib.hid hst2
      have HONE := Lib.hid hone
      have hltI : ((sk + k : Nat) : Int) < (s.size : Int) := by omega
      have hlt2 : sk + k < s.size := by omega
      clear hm hst1 hst2 hone hby hm45 hm46
      go_wp2_with fail
      refine (cH.out _).mono ?_
      rintro e w3 ⟨rfl, nq, rfl⟩
      rw [HONE.out]
      dsimp only
      clear hext
      go_wp2_with fail
      refine (CP.out _).mono ?_
      rintro e w4 ⟨rfl, rfl⟩
      have hbr2 := below_drewN hbr nq
      by_cases hov : p < m * b + v
      · have dov : decide ((p : Int) < (m : Int) * (b : Int) + (v : Int)) = true := decide_eq_true (by rw [← Int.natCast_mul]; omega)
        have HOV := Lib.hid hov
        clear hov hmI hm0
        go_wp2_with fail
        refine (CP.out _).mono ?_
        rintro e w5 ⟨rfl, rfl⟩
        go_wp2_with fail
        go_roundw
        case rel => exact ⟨k + 1, p, by omega, by go_num, rfl, by rw [HP.out]; exact HST2.out (by rw [← HP.out]; exact HOV.out), hbr2⟩
        case measure => simp [intOf]; omega
      · have dov : decide ((p : Int) < (m : Int) * (b : Int) + (v : Int)) = false := decide_eq_false (by rw [← Int.natCast_mul]; omega)
        have HOV := Lib.hid hov
        clear hov hmI hm0
        go_wp2_with fail
        go_roundw
        case rel => exact ⟨k + 1, m * b + v, by omega, by go_num, by rw [Int.natCast_add, Int.natCast_mul], HST1.out (by have := HOV.out; rw [HP.out] at this; omega), hbr2⟩
        case measure => simp [intOf]; omega
    · obtain rfl : k = d.size := by omega
      have HM := Lib.hid hm
      clear hm
      have hend : ¬ ((sk + d.size : Nat) : Int) < (s.size : Int) := by omega
      go_wp2_with fail
      go_ret
      exact ⟨hbr, by rw [HM.out, HNUM.out]; rfl⟩
end Go.Proofs.YtpaeloadmjblpaaDoor
