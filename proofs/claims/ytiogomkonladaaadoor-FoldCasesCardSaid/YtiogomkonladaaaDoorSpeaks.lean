/- The examples of chapter 02's statements. -/
import Derived.Test.YtiogomkonladaaaDoorNumber
import Derived.Test.YtiogomkonladaaaDoorFields
import Derived.Test.YtiogomkonladaaaDoorStrs
namespace Go.Proofs.YtiogomkonladaaaDoor
open Go.RowKit

theorem speaks_hex : numRes ⟨#[48, 102, 70]⟩ 16 255 = (255, 0, 0) := by decide +kernel
theorem speaks_cut : cutAt ⟨#[97, 44, 44, 98]⟩ 44 4 = ([⟨#[97]⟩, ⟨#[]⟩], 3) := by decide +kernel

set_option maxHeartbeats 1600000 in
set_option maxRecDepth 100000 in
theorem law_speaks (w : World) : Calls Tryd.prog 6 #[] w fun e w' => e = .returned (.bool true) ∧ Below w.heap.size w w' := by
  go_enter Tryd.func6, Tryd.ntmps6
  go_wp2_with fail
  refine (fold_Hex ⟨#[48, 102, 70]⟩ 255 _ (by decide) (by omega)).mono ?_
  rintro e w1 ⟨v, rfl, hv, hb1⟩
  rw [speaks_hex] at hv ⊢
  obtain rfl : v = .nilIface := by
    rcases hv with ⟨_, h⟩ | ⟨h, _⟩
    · exact h
    · exact absurd rfl h
  clear hv
  go_wp2_with fail
  refine (fold_Fields ⟨#[97, 44, 44, 98]⟩ 44 9 _ (by decide) (by omega) (by omega)).mono ?_
  rintro e w2 ⟨hb2, h⟩
  have hsz : (⟨#[97, 44, 44, 98]⟩ : ByteArray).size = 4 := rfl
  rw [hsz, speaks_cut] at h
  rcases h with ⟨v, rfl, _, hown⟩ | ⟨i, v, rfl, hi, _, hc, _⟩
  · obtain ⟨g, cap, rfl, hg, hgl⟩ := ownsRow_form hown (by simp)
    have hrow := StrRow.of_own hown
    have hc1 := hrow.2 1 (by simp)
    simp at hc1
    clear hown
    go_wp2_with fail
    go_ret
    exact ⟨rfl, hb1.trans (hb2.mono hb1.size)⟩
  · have := (cutAt_le ⟨#[97, 44, 44, 98]⟩ 44 (i + 1)).1
    omega
end Go.Proofs.YtiogomkonladaaaDoor
