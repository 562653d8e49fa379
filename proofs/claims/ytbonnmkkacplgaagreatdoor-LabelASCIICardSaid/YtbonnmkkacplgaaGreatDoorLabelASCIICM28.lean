/- The reference's Right of chapter 10. -/
import Derived.Test.YtbonnmkkacplgaaGreatDoorLabelASCIICM15
import Derived.Test.YtbonnmkkacplgaaGreatDoorLabelASCIICM27

namespace Go.Proofs.YtbonnmkkacplgaaGreatDoor
open Go.RowKit

theorem u8_beq45 (b : UInt8) : ((b.toNat : Int) == 45) = decide (b = 45) := by
  by_cases h : b = 45
  · subst h; rfl
  · rw [decide_eq_false h, beq_eq_false_iff_ne]
    intro e
    apply h
    apply UInt8.toNat_inj.1
    show b.toNat = 45
    omega
def RRightPost (s : ByteArray) (w : World) (e : Ending) (w' : World) : Prop := Below w.heap.size w w' ∧ e = .returned (.tuple #[.int .i64 ((rightL s).1 : Int), .int .i64 ((rightL s).2 : Int)])
set_option maxHeartbeats 6400000 in
set_option maxRecDepth 100000 in
theorem ref10_Right (s : ByteArray) (w : World) (hs : s.size ≤ 1000000) : Calls Tryz.prog 20 #[.string s] w (RRightPost s w) := by
  by_cases h0 : s.size = 0
  · have e1 : ((s.size : Int) == 0) = true := by rw [h0]; rfl
    have HR := Lib.hid (rightL_empty h0)
    clear h0
    go_enter Tryz.func20, Tryz.ntmps20
    go_wp2_with fail
    go_ret2
    exact ⟨Below.refl _ _, by rw [HR.out]; rfl⟩
  have e1 : ((s.size : Int) == 0) = false := by rw [beq_eq_false_iff_ne]; omega
  by_cases h63 : 63 < s.size
  · have hI : (s.size : Int) > 63 := by omega
    have HR := Lib.hid (rightL_long h0 h63)
    clear h0 h63
    go_enter Tryz.func20, Tryz.ntmps20
    go_wp2_with fail
    go_ret2
    exact ⟨Below.refl _ _, by rw [HR.out]; rfl⟩
  have hI : ¬ (s.size : Int) > 63 := by omega
  have HBAD := Lib.hid (fun i h => rightL_bad (s := s) (i := i) h0 h63 h)
  have HFINE := Lib.hid (fun h => rightL_fine (s := s) h0 h63 h)
  have hpos : 0 < s.size := Nat.pos_of_ne_zero h0
  have HSMN := Lib.hid (fun k => bad_next (s := s) (r := s.size - (k + 1)) (k := k))
  have HSMH := Lib.hid (fun k => bad_hit (s := s) (r := s.size - (k + 1)) (k := k))
  have cD := Lib.hid (fun W => ref10_Coded s W (by omega))
  clear h0
  go_enter Tryz.func20, Tryz.ntmps20
  go_wp2_with fail
  go_loopw [4] (fun v wr => ∃ i : Nat, i ≤ s.size ∧ v = .int .i64 i ∧ badAt s (s.size - i) i = badAt s s.size 0 ∧ wr = w) (fun v _ => s.size - (intOf v).toNat)
  case atStart => exact ⟨0, Nat.zero_le _, rfl, rfl, rfl⟩
  case round =>
    obtain ⟨i, hil, rfl, hba, rfl⟩ := hrel
    by_cases hlt : i < s.size
    · have hiI : (i : Int) < (s.size : Int) := by omega
      have hr1 : s.size - i = (s.size - (i + 1)) + 1 := by omega
      have hnx := HSMN.out i
      have hht := HSMH.out i
      rw [hr1] at hba
      have hb256 := (byteAt s i).toNat_lt
      have c3 := Lib.hid (fun W => ref10_small ((byteAt s i).toNat : Int) W (by omega) (by omega))
      rw [← str_ix hlt] at hnx hht c3 hb256
      clear hr1
      cases hsm : smallZ (s[i].toNat : Int) with
      | true =>
        rw [hsm] at c3
        have hb3 := (hnx hsm).symm.trans hba
        have HB3 := Lib.hid hb3
        clear hnx hht hsm hba hb3
        go_wp2_with fail
        refine (c3.out _).mono ?_
        rintro e w5 ⟨rfl, hw5⟩
        obtain rfl := hw5
        go_wp2_with fail
        go_roundw
        case rel => exact ⟨i + 1, by omega, by go_num, HB3.out, by first | rfl | trivial⟩
        case measure => simp [intOf]; omega
      | false =>
        rw [hsm] at c3
        have HR := Lib.hid (HBAD.out i (hba.symm.trans (hht hsm)))
        clear hnx hht hsm hba
        go_wp2_with fail
        refine (c3.out _).mono ?_
        rintro e w5 ⟨rfl, hw5⟩
        obtain rfl := hw5
        go_wp2_with fail
        go_ret2
        exact ⟨Below.refl _ _, by rw [HR.out]; rfl⟩
    · obtain rfl : i = s.size := by omega
      have hiI : ¬ (s.size : Int) < (s.size : Int) := by omega
      have hnone : badAt s s.size 0 = none := by rw [← hba, Nat.sub_self]; rfl
      have HF := Lib.hid (HFINE.out hnone)
      have hx0 := u8_beq45 (byteAt s 0)
      have hx1 := u8_beq45 (byteAt s (s.size - 1))
      rw [← str_ix hpos] at hx0
      rw [← str_ix (show s.size - 1 < s.size by omega)] at hx1
      have hfb : fineB s = (decide (byteAt s 0 ≠ 45) && decide (byteAt s (s.size - 1) ≠ 45) && (!codedB s || (labD s).isSome)) := rfl
      rw [← str_ix hpos, ← str_ix (show s.size - 1 < s.size by omega)] at hfb
      have hlI : (s.size : Int) - 1 = ((s.size - 1 : Nat) : Int) := by omega
      have hposI : (0 : Int) < (s.size : Int) := by omega
      have HFB := Lib.hid hfb
      clear hba hnone hfb
      by_cases q0 : s[0] = 45
      · have n0 : ((s[0].toNat : Int) == 45) = true := by rw [hx0]; exact decide_eq_true q0
        have hr := HF.out
        rw [HFB.out, if_neg (by simp [q0])] at hr
        have HR := Lib.hid hr
        clear hx0 hx1 q0 hr
        go_wp2_with fail
        go_ret2
        exact ⟨Below.refl _ _, by rw [HR.out]; rfl⟩
      have n0 : ((s[0].toNat : Int) == 45) = false := by rw [hx0]; exact decide_eq_false q0
      by_cases q1 : s[s.size - 1] = 45
      · have n1 : ((s[s.size - 1].toNat : Int) == 45) = true := by rw [hx1]; exact decide_eq_true q1
        have hr := HF.out
        rw [HFB.out, if_neg (by simp [q1])] at hr
        have HR := Lib.hid hr
        clear hx0 hx1 q0 q1 hr
        go_wp2_with fail
        go_ret2
        exact ⟨Below.refl _ _, by rw [HR.out]; rfl⟩
      have n1 : ((s[s.size - 1].toNat : Int) == 45) = false := by rw [hx1]; exact decide_eq_false q1
      have hr := HF.out
      rw [HFB.out, decide_eq_true q0, decide_eq_true q1, Bool.true_and, Bool.true_and] at hr
      have HR := Lib.hid hr
      clear hx0 hx1 q0 q1 hr HF HFB
      by_cases h4 : 4 ≤ s.size
      · have h4I : (s.size : Int) ≥ 4 := by omega
        have hl2 : 2 < s.size := by omega
        have hl3 : 3 < s.size := by omega
        have hl2I : (2 : Int) < (s.size : Int) := by omega
        have hl3I : (3 : Int) < (s.size : Int) := by omega
        have hx2 := u8_beq45 (byteAt s 2)
        have hx3 := u8_beq45 (byteAt s 3)
        rw [← str_ix hl2] at hx2
        rw [← str_ix hl3] at hx3
        have hcd : codedB s = decide (4 ≤ s.size ∧ byteAt s 2 = 45 ∧ byteAt s 3 = 45) := rfl
        rw [← str_ix hl2, ← str_ix hl3] at hcd
        by_cases q2 : s[2] = 45
        · have n2 : ((s[2].toNat : Int) == 45) = true := by rw [hx2]; exact decide_eq_true q2
          by_cases q3 : s[3] = 45
          · have n3 : ((s[3].toNat : Int) == 45) = true := by rw [hx3]; exact decide_eq_true q3
            rw [decide_eq_true ⟨h4, q2, q3⟩] at hcd
            rw [hcd] at HR
            clear hcd hx2 hx3 q2 q3
            go_wp2_with fail
            refine (cD.out _).mono ?_
            rintro e w6 ⟨hb6, h6⟩
            rcases h6 with ⟨hn, v, rfl⟩ | ⟨l, v, hn, rfl, _⟩
            · have hr := HR.out
              rw [hn, if_neg (by decide)] at hr
              have HR2 := Lib.hid hr
              clear hr hn
              go_wp2_with fail
              go_ret2
              exact ⟨hb6, by rw [HR2.out]; rfl⟩
            · have hr := HR.out
              rw [hn, if_pos (by rfl)] at hr
              have HR2 := Lib.hid hr
              clear hr hn
              go_wp2_with fail
              go_ret2
              exact ⟨hb6, by rw [HR2.out]; rfl⟩
          · have n3 : ((s[3].toNat : Int) == 45) = false := by rw [hx3]; exact decide_eq_false q3
            rw [decide_eq_false (fun h => q3 h.2.2)] at hcd
            have hr := HR.out
            rw [hcd, if_pos (by rfl)] at hr
            have HR2 := Lib.hid hr
            clear hcd hx2 hx3 q2 q3 hr
            go_wp2_with fail
            go_ret2
            exact ⟨Below.refl _ _, by rw [HR2.out]; rfl⟩
        · have n2 : ((s[2].toNat : Int) == 45) = false := by rw [hx2]; exact decide_eq_false q2
          rw [decide_eq_false (fun h => q2 h.2.1)] at hcd
          have hr := HR.out
          rw [hcd, if_pos (by rfl)] at hr
          have HR2 := Lib.hid hr
          clear hcd hx2 hx3 q2 hr
          go_wp2_with fail
          go_ret2
          exact ⟨Below.refl _ _, by rw [HR2.out]; rfl⟩
      · have h4I : ¬ (s.size : Int) ≥ 4 := by omega
        have hcd : codedB s = false := decide_eq_false (fun h => h4 h.1)
        have hr := HR.out
        rw [hcd, if_pos (by rfl)] at hr
        have HR2 := Lib.hid hr
        clear hcd hr
        go_wp2_with fail
        go_ret2
        exact ⟨Below.refl _ _, by rw [HR2.out]; rfl⟩
end Go.Proofs.YtbonnmkkacplgaaGreatDoor
