/- The reference's Small. -/
import Derived.Test.YtpaeloadmjblpaaDoorKit
namespace Go.Proofs.YtpaeloadmjblpaaDoor
open Go.RowKit

def smallN (n : Nat) : Nat := if 65 ≤ n ∧ n ≤ 90 then n + 32 else n
theorem ret_u8 {a b : Int} (h : a = b) : Ending.returned (.int .u8 a) = .returned (.int .u8 b) := by rw [h]
theorem ref_Small (n : Nat) (hn : n < 256) (w : World) : Calls Tryd.prog 69 #[.int .u8 (n : Int)] w fun e w' => e = .returned (.int .u8 (smallN n : Nat)) ∧ w = w' := by
  by_cases h1 : 65 ≤ n
  · by_cases h2 : n ≤ 90
    · have hv := Lib.hid (show smallN n = n + 32 by unfold smallN; rw [if_pos ⟨h1, h2⟩])
      go_enter Tryd.func69, Tryd.ntmps69
      go_wp2
      go_ret
      exact ⟨ret_u8 (by rw [hv.out]; omega), rfl⟩
    · have hv := Lib.hid (show smallN n = n by unfold smallN; rw [if_neg (by omega)])
      go_enter Tryd.func69, Tryd.ntmps69
      go_wp2
      go_ret
      exact ⟨ret_u8 (by rw [hv.out]), rfl⟩
  · have hv := Lib.hid (show smallN n = n by unfold smallN; rw [if_neg (by omega)])
    go_enter Tryd.func69, Tryd.ntmps69
    go_wp2
    go_ret
    exact ⟨ret_u8 (by rw [hv.out]), rfl⟩
end Go.Proofs.YtpaeloadmjblpaaDoor
