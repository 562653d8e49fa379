/- The reference's All. -/
import Derived.Test.YtpaeloadmjblpaaDoorAllIn
namespace Go.Proofs.YtpaeloadmjblpaaDoor
open Go.RowKit

set_option maxHeartbeats 1600000 in
theorem ref_All (s m : ByteArray) (w : World) (hs : s.size ≤ 140737488351232) (hm : m.size ≤ 140737488351232) : Calls Tryd.prog 35 #[.string s, .string m] w fun e w' => e = .returned (.bool (allB s m)) ∧ w = w' := by
  go_enter Tryd.func35, Tryd.ntmps35
  go_wp2_with fail
  go_loopw [5] (fun a wr => ∃ i : Nat, i ≤ s.size ∧ a = .int .i64 i ∧ (∀ j, j < i → hasB m (byteAt s j) = true) ∧ w = wr) (fun a _ => s.size - (intOf a).toNat)
  case atStart => exact ⟨0, Nat.zero_le _, rfl, fun j hj => by omega, rfl⟩
  case round =>
    obtain ⟨i, hil, rfl, hall, rfl⟩ := hrel
    have HA := Lib.hid hall
    clear hall
    by_cases hlt : i < s.size
    · have hbk : s[i] = byteAt s i := by simp [byteAt, List.getD, hlt]; rfl
      have HBK := Lib.hid hbk
      have hstep : hasB m (byteAt s i) = true → ∀ j, j < i + 1 → hasB m (byteAt s j) = true := fun h j hj => by
        by_cases hji : j = i
        · rw [hji]; exact h
        · exact HA.out j (by omega)
      have hno : hasB m (byteAt s i) = false → allB s m = false := allB_no hlt
      have HS := Lib.hid hstep
      have HN := Lib.hid hno
      clear hstep hno hbk
      go_wp2_with fail
      rw [HBK.out]
      clear HBK
      generalize byteAt s i = c at *
      refine (ref_Has m c _ hm).mono ?_
      rintro e w2 ⟨rfl, rfl⟩
      by_cases h1 : hasB m c = true
      · rw [h1]
        have H1 := Lib.hid (HS.out h1)
        clear h1
        go_wp2_with fail
        go_roundw
        case rel => exact ⟨i + 1, by omega, by go_num, H1.out, by trivial⟩
        case measure => simp [intOf]; omega
      · have h1 : hasB m c = false := by simpa using h1
        rw [h1]
        have H1 := Lib.hid (HN.out h1)
        clear h1
        go_wp2_with fail
        go_ret
        exact ⟨ret_bool H1.out.symm, rfl⟩
    · have hy := Lib.hid (allB_yes (s := s) (m := m) fun j hj => HA.out j (by omega))
      obtain rfl : i = s.size := by omega
      go_wp2_with fail
      go_ret
      exact ⟨ret_bool hy.out.symm, rfl⟩

end Go.Proofs.YtpaeloadmjblpaaDoor
