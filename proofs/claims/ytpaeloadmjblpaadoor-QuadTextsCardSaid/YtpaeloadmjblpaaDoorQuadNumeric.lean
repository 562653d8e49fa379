/- quad.Numeric, and the reference's. -/
import Derived.Test.YtpaeloadmjblpaaDoorQuadRes
import Derived.Test.YtpaeloadmjblpaaDoorRefQuad
import Derived.Test.YtpaeloadmjblpaaDoorRefAll
namespace Go.Proofs.YtpaeloadmjblpaaDoor
open Go.RowKit

/-- Behind which place the last point stands: 0: there is none. -/
def lastTo (s : ByteArray) : Nat → Nat
  | 0 => 0
  | k + 1 => if byteAt s k = 46 then k + 1 else lastTo s k
theorem lastTo_le (s : ByteArray) (k : Nat) : lastTo s k ≤ k := by
  induction k with
  | zero => exact Nat.le_refl _
  | succ k ih => unfold lastTo; split <;> omega
theorem lastTo_yes {s : ByteArray} {k : Nat} (h : byteAt s k = 46) : lastTo s (k + 1) = k + 1 := by rw [lastTo, if_pos h]
theorem lastTo_no {s : ByteArray} {k : Nat} (h : ¬ byteAt s k = 46) : lastTo s (k + 1) = lastTo s k := by rw [lastTo, if_neg h]
def lastS (s : ByteArray) : ByteArray := s.extract (lastTo s s.size) s.size
def numericB (s : ByteArray) : Bool := if hexedB (lastS (cutP s)) = true then allB ((lastS (cutP s)).extract 2 (lastS (cutP s)).size) hexQ else (!decide ((lastS (cutP s)).size = 0) && allB (lastS (cutP s)) decQ)
theorem lastS_size (s : ByteArray) : (lastS s).size ≤ s.size := by unfold lastS; rw [ByteArray.size_extract]; omega
set_option maxHeartbeats 800000 in
theorem last_index (s : ByteArray) (hs : s.size ≤ 16777216) (w : World) : Calls Tryd.prog 49 #[.string s, .int .u8 46] w fun e w' => e = .returned (.int .i64 ((lastTo s s.size : Int) - 1)) ∧ w = w' := by
  go_enter Tryd.func49, Tryd.ntmps49
  go_wp2_with fail
  go_loop [5] (fun x => ∃ k : Nat, k ≤ s.size ∧ x = .int .i64 ((k : Int) - 1) ∧ lastTo s s.size = lastTo s k) (fun x => (intOf x + 1).toNat)
  case atStart => exact ⟨s.size, Nat.le_refl _, rfl, rfl⟩
  case round =>
    obtain ⟨k, hk, rfl, hl⟩ := hrel
    have HL := Lib.hid hl
    clear hl
    cases k with
    | zero =>
      go_wp2_with fail
      go_ret
      exact ⟨ret_i64 (by rw [HL.out]; rfl), rfl⟩
    | succ k =>
      have hk1 : ((k + 1 : Nat) : Int) - 1 = (k : Int) := by omega
      rw [hk1]
      have hlt : k < s.size := by omega
      have hb := byteAt_idx hlt
      have hkI : (k : Int) < (s.size : Int) := by omega
      clear hk1
      by_cases h : byteAt s k = 46
      · have HV := Lib.hid (HL.out.trans (lastTo_yes h))
        have e1 : (((byteAt s k).toNat : Int) == 46) = true := by rw [h]; rfl
        clear h
        go_wp2_with fail
        go_ret
        exact ⟨ret_i64 (by rw [HV.out]; omega), rfl⟩
      · have HV := Lib.hid (HL.out.trans (lastTo_no h))
        have e1 : (((byteAt s k).toNat : Int) == 46) = false := u8_ne' (b := 46) h
        clear h
        go_wp2_with fail
        go_round
        case rel => exact ⟨k, by omega, rfl, HV.out⟩
        case measure => simp [intOf]
theorem str_last (s : ByteArray) (hs : s.size ≤ 16777216) (w : World) : Calls Tryd.prog 31 #[.string s, .int .u8 46] w fun e w' => e = .returned (.int .i64 ((lastTo s s.size : Int) - 1)) ∧ w = w' := by
  have c1 := Lib.hid (fun W => last_index s hs W)
  go_enter Tryd.func31, Tryd.ntmps31
  go_wp2_with fail
  refine (c1.out _).mono ?_
  rintro e w2 ⟨rfl, rfl⟩
  go_wp2_with fail
  go_ret
  exact ⟨rfl, rfl⟩
set_option maxHeartbeats 1600000 in
theorem quad_Numeric (s : ByteArray) (hs : s.size ≤ 16777216) (w : World) : Calls Tryd.prog 13 #[.string s] w fun e w' => e = .returned (.bool (numericB s)) ∧ Below w.heap.size w w' := by
  have cC := Lib.hid (fun W => quad_cut s hs W)
  have hcz := cutP_size s
  have hlz := lastS_size (cutP s)
  have cL := Lib.hid (fun W => str_last (cutP s) (by omega) W)
  have hle := lastTo_le (cutP s) (cutP s).size
  have hex : (cutP s).extract (lastTo (cutP s) (cutP s).size) (cutP s).size = lastS (cutP s) := rfl
  have cH := Lib.hid (fun W => quad_hexed (lastS (cutP s)) (by omega) W)
  have cA := Lib.hid (fun W => fold_All (lastS (cutP s)) decQ W (by omega))
  have cA2 := Lib.hid (fun W => fold_All ((lastS (cutP s)).extract 2 (lastS (cutP s)).size) hexQ W (by rw [ByteArray.size_extract]; omega))
  have hx2 : hexedB (lastS (cutP s)) = true → numericB s = allB ((lastS (cutP s)).extract 2 (lastS (cutP s)).size) hexQ := fun h => by unfold numericB; rw [if_pos h]
  have hx3 : hexedB (lastS (cutP s)) = false → numericB s = (!decide ((lastS (cutP s)).size = 0) && allB (lastS (cutP s)) decQ) := fun h => by unfold numericB; rw [if_neg (by simp [h])]
  generalize lastTo (cutP s) (cutP s).size = k at *
  generalize lastS (cutP s) = l at *
  generalize cutP s = t at *
  have HX2 := Lib.hid hx2
  have HX3 := Lib.hid hx3
  have HEX := Lib.hid hex
  have hk1 : (k : Int) - 1 + 1 = (k : Int) := by omega
  have hkI : (k : Int) ≤ (t.size : Int) := by omega
  clear hx2 hx3 hex
  cases hh : hexedB l
  all_goals
    rw [hh] at cH
    go_enter Tryd.func13, Tryd.ntmps13
    go_wp2_with fail
    refine (cC.out _).mono ?_
    rintro e w2 ⟨rfl, rfl⟩
    go_wp2_with fail
    refine (cL.out _).mono ?_
    rintro e w2 ⟨rfl, rfl⟩
    go_wp2_with fail
    rw [HEX.out]
    refine (cH.out _).mono ?_
    rintro e w2 ⟨rfl, rfl⟩
  · have HV := Lib.hid (HX3.out hh)
    clear hh
    by_cases h0 : l.size = 0
    · have he : l.toList.isEmpty = true := isEmpty_yes h0
      have hv : numericB s = false := by rw [HV.out, decide_eq_true h0]; rfl
      have HV2 := Lib.hid hv
      clear h0 hv
      go_wp2_with fail
      go_ret
      exact ⟨ret_bool HV2.out.symm, Below.refl _ _⟩
    · have he : l.toList.isEmpty = false := isEmpty_no (by omega)
      have hv : numericB s = allB l decQ := by rw [HV.out, decide_eq_false h0]; rfl
      have HV2 := Lib.hid hv
      clear h0 hv
      go_wp2_with fail
      refine (cA.out _).mono ?_
      rintro e w3 ⟨rfl, hb3⟩
      go_wp2_with fail
      go_ret
      exact ⟨ret_bool HV2.out.symm, hb3⟩
  · have HV := Lib.hid (HX2.out hh)
    clear hh
    go_wp2_with fail
    refine (cA2.out _).mono ?_
    rintro e w3 ⟨rfl, hb3⟩
    go_wp2_with fail
    go_ret
    exact ⟨ret_bool HV.out.symm, hb3⟩
set_option maxHeartbeats 6400000 in
set_option maxRecDepth 100000 in
theorem ref11_Numeric (s : ByteArray) (hs : s.size ≤ 16777216) (w : World) : Calls Tryd.prog 14 #[.string s] w fun e w' => e = .returned (.bool (numericB s)) ∧ w = w' := by
  have cC := Lib.hid (fun W => ref11_cut s hs W)
  have hcz := cutP_size s
  have hlz := lastS_size (cutP s)
  have hle := lastTo_le (cutP s) (cutP s).size
  have hex : (cutP s).extract (lastTo (cutP s) (cutP s).size) (cutP s).size = lastS (cutP s) := rfl
  have cH := Lib.hid (fun W => ref11_hexed (lastS (cutP s)) (by omega) W)
  have cA := Lib.hid (fun W => ref_All (lastS (cutP s)) decQ W (by omega) (by decide))
  have cA2 := Lib.hid (fun W => ref_All ((lastS (cutP s)).extract 2 (lastS (cutP s)).size) hexQ W (by rw [ByteArray.size_extract]; omega) (by decide))
  have hx2 : hexedB (lastS (cutP s)) = true → numericB s = allB ((lastS (cutP s)).extract 2 (lastS (cutP s)).size) hexQ := fun h => by unfold numericB; rw [if_pos h]
  have hx3 : hexedB (lastS (cutP s)) = false → numericB s = (!decide ((lastS (cutP s)).size = 0) && allB (lastS (cutP s)) decQ) := fun h => by unfold numericB; rw [if_neg (by simp [h])]
  have HHZ := Lib.hid (fun h => @hexedB_size (lastS (cutP s)) h)
  generalize lastS (cutP s) = l at *
  generalize cutP s = t at *
  have HX2 := Lib.hid hx2
  have HX3 := Lib.hid hx3
  have HEX := Lib.hid hex
  clear hx2 hx3 hex
  go_enter Tryd.func14, Tryd.ntmps14
  go_wp2_with fail
  refine (cC.out _).mono ?_
  rintro e w2 ⟨rfl, rfl⟩
  go_wp2_with fail
  go_loop [4] (fun x => ∃ k : Nat, k ≤ t.size ∧ x = .int .i64 (k : Int) ∧ lastTo t t.size = lastTo t k) (fun x => (intOf x).toNat)
  case atStart => exact ⟨t.size, Nat.le_refl _, rfl, rfl⟩
  case round =>
    obtain ⟨k, hk, rfl, hl⟩ := hrel
    have HL := Lib.hid hl
    clear hl
    have hgo : (∃ j, k = j + 1 ∧ ¬ byteAt t j = 46) ∨ (lastTo t k = k ∧ (k = 0 ∨ ∃ j, k = j + 1 ∧ byteAt t j = 46)) := by
      cases k with
      | zero => exact .inr ⟨rfl, .inl rfl⟩
      | succ j =>
        by_cases h : byteAt t j = 46
        · exact .inr ⟨lastTo_yes h, .inr ⟨j, rfl, h⟩⟩
        · exact .inl ⟨j, rfl, h⟩
    rcases hgo with ⟨j, rfl, h⟩ | ⟨hlk, hst⟩
    · have HV := Lib.hid (HL.out.trans (lastTo_no h))
      have e1 := u8_ne (b := 46) h
      have hlt : j < t.size := by omega
      have hb := byteAt_idx hlt
      have hjI : (j : Int) < (t.size : Int) := by omega
      have hj1 : ((j + 1 : Nat) : Int) - 1 = (j : Int) := by omega
      have d1 : decide ((0 : Int) < ((j + 1 : Nat) : Int)) = true := decide_eq_true (by omega)
      have e2 : (((byteAt t j).toNat : Int) != 46) = true := e1
      clear h
      go_wp2_with fail
      go_round
      case rel => exact ⟨j, by omega, by go_num, HV.out⟩
      case measure => simp [intOf]
    · have hex2 : t.extract k t.size = l := by rw [← HEX.out, HL.out, hlk]
      have HEX2 := Lib.hid hex2
      have hkI : (k : Int) ≤ (t.size : Int) := by omega
      clear hex2 hlk
      rcases hst with rfl | ⟨j, rfl, h⟩
      · obtain rfl : l = t := HEX2.out.symm.trans (whole t)
        go_wp2_with fail
        refine (cH.out _).mono ?_
        rintro e w3 ⟨rfl, rfl⟩
        cases hh : hexedB l with
        | true =>
          have HV := Lib.hid (HX2.out hh)
          have hl2 := HHZ.out hh
          have hl2I : (2 : Int) ≤ (l.size : Int) := by omega
          clear hh
          go_wp2_with fail
          refine (cA2.out _).mono ?_
          rintro e w4 ⟨rfl, rfl⟩
          go_wp2_with fail
          go_ret
          exact ⟨ret_bool HV.out.symm, rfl⟩
        | false =>
          have HV := Lib.hid (HX3.out hh)
          clear hh
          by_cases h0 : l.size = 0
          · have hd : decide ((0 : Int) < (l.size : Int)) = false := decide_eq_false (by omega)
            have hdn : ¬ 0 < l.size := by omega
            have hdd : decide (0 < l.size) = false := decide_eq_false hdn
            have hv : numericB s = false := by rw [HV.out, decide_eq_true h0]; rfl
            have HV2 := Lib.hid hv
            clear h0 hv
            go_wp2_with fail
            go_ret
            exact ⟨ret_bool HV2.out.symm, rfl⟩
          · have hd : decide ((0 : Int) < (l.size : Int)) = true := decide_eq_true (by omega)
            have hdn : 0 < l.size := by omega
            have hdI : (0 : Int) < (l.size : Int) := by omega
            have hv : numericB s = allB l decQ := by rw [HV.out, decide_eq_false h0]; rfl
            have HV2 := Lib.hid hv
            clear h0 hv
            go_wp2_with fail
            refine (cA.out _).mono ?_
            rintro e w4 ⟨rfl, rfl⟩
            go_wp2_with fail
            go_ret
            exact ⟨ret_bool HV2.out.symm, rfl⟩
      · have e1 : (((byteAt t j).toNat : Int) != 46) = false := u8_eq (b := 46) h
        have hlt : j < t.size := by omega
        have hb := byteAt_idx hlt
        have hjI : (j : Int) < (t.size : Int) := by omega
        have hj1 : ((j + 1 : Nat) : Int) - 1 = (j : Int) := by omega
        have d1 : decide ((0 : Int) < ((j + 1 : Nat) : Int)) = true := decide_eq_true (by omega)
        clear h
        go_wp2_with fail
        rw [HEX2.out]
        refine (cH.out _).mono ?_
        rintro e w3 ⟨rfl, rfl⟩
        cases hh : hexedB l with
        | true =>
          have HV := Lib.hid (HX2.out hh)
          have hl2 := HHZ.out hh
          have hl2I : (2 : Int) ≤ (l.size : Int) := by omega
          clear hh
          go_wp2_with fail
          refine (cA2.out _).mono ?_
          rintro e w4 ⟨rfl, rfl⟩
          go_wp2_with fail
          go_ret
          exact ⟨ret_bool HV.out.symm, rfl⟩
        | false =>
          have HV := Lib.hid (HX3.out hh)
          clear hh
          by_cases h0 : l.size = 0
          · have hd : decide ((0 : Int) < (l.size : Int)) = false := decide_eq_false (by omega)
            have hdn : ¬ 0 < l.size := by omega
            have hdd : decide (0 < l.size) = false := decide_eq_false hdn
            have hv : numericB s = false := by rw [HV.out, decide_eq_true h0]; rfl
            have HV2 := Lib.hid hv
            clear h0 hv
            go_wp2_with fail
            go_ret
            exact ⟨ret_bool HV2.out.symm, rfl⟩
          · have hd : decide ((0 : Int) < (l.size : Int)) = true := decide_eq_true (by omega)
            have hdn : 0 < l.size := by omega
            have hdI : (0 : Int) < (l.size : Int) := by omega
            have hv : numericB s = allB l decQ := by rw [HV.out, decide_eq_false h0]; rfl
            have HV2 := Lib.hid hv
            clear h0 hv
            go_wp2_with fail
            refine (cA.out _).mono ?_
            rintro e w4 ⟨rfl, rfl⟩
            go_wp2_with fail
            go_ret
            exact ⟨ret_bool HV2.out.symm, rfl⟩
end Go.Proofs.YtpaeloadmjblpaaDoor
