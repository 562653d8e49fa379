/- Of the reference of chapter 02: Has, Same. -/
import Derived.Test.YtpaeloadmjblpaaDoorKit
namespace Go.Proofs.YtpaeloadmjblpaaDoor
open Go.RowKit

/-- Strings stand in the cells of a block, from a place on. -/
def StrRow (w : World) (b off n : Nat) (l : List ByteArray) : Prop := l.length = n ∧ ∀ i, i < n → w.cell? ⟨b, off + i, none⟩ = some (.string (l.getD i ByteArray.empty))
theorem StrRow.below {w w' : World} {b off n B : Nat} {l : List ByteArray} (h : StrRow w b off n l) (hb : Below B w w') (hg : b < B) : StrRow w' b off n l :=
  ⟨h.1, fun i hi => (hb.cell (p := ⟨b, off + i, none⟩) hg).trans (h.2 i hi)⟩
theorem StrRow.drewN {w : World} {b off n : Nat} {l : List ByteArray} (h : StrRow w b off n l) (m : Nat) : StrRow (w.drewN m) b off n l := h
theorem StrRow.of_own {w : World} {base : Nat} {e : TypeId} {g n cap : Nat} {l : List ByteArray} (h : w.ownsRow base e 1 (.slice (some ⟨g, 0, none⟩) n cap) n (l.map strV)) : StrRow w g 0 n l := by
  have hl : l.length = n := by have := h.1; simpa using this
  refine ⟨hl, fun i hi => ?_⟩
  rw [Nat.zero_add, h.cellAt i (by omega)]
  simp [strV, hl, hi]

def hasB (s : ByteArray) (c : UInt8) : Bool := (List.range s.size).any fun i => byteAt s i == c
theorem hasB_yes {s : ByteArray} {c : UInt8} {k : Nat} (hk : k < s.size) (h : byteAt s k = c) : hasB s c = true := by
  unfold hasB; rw [List.any_eq_true]; exact ⟨k, by simpa using hk, by simpa using h⟩
theorem hasB_no {s : ByteArray} {c : UInt8} (h : ∀ j, j < s.size → byteAt s j ≠ c) : hasB s c = false := by
  unfold hasB; rw [List.any_eq_false]; intro j hj; simpa using h j (by simpa using hj)

theorem str_eqB (a b : ByteArray) : (a.toList == b.toList) = decide (a = b) := by
  rw [ByteArray.toList_eq, ByteArray.toList_eq, Bool.eq_iff_iff]
  simp only [beq_iff_eq, decide_eq_true_eq, Array.toList_inj]
  exact ⟨fun h => by cases a; cases b; simp_all, fun h => by rw [h]⟩


set_option maxHeartbeats 800000 in
theorem ref_Has (s : ByteArray) (c : UInt8) (w : World) (hs : s.size ≤ 140737488351232) :
    Calls Tryd.prog 27 #[.string s, .int .u8 (c.toNat : Int)] w fun e w' => e = .returned (.bool (hasB s c)) ∧ w = w' := by
  go_enter Tryd.func27, Tryd.ntmps27
  go_wp2_with fail
  go_loop [5] (fun i => ∃ k : Nat, k ≤ s.size ∧ i = .int .i64 k ∧ ∀ j, j < k → byteAt s j ≠ c) (fun i => s.size - (intOf i).toNat)
  case atStart => exact ⟨0, Nat.zero_le _, rfl, fun j hj => by omega⟩
  case round =>
    obtain ⟨k, hk, rfl, hall⟩ := hrel
    have HA := Lib.hid hall
    clear hall
    by_cases hlt : k < s.size
    · have hb : byteAt s k = s[k] := by simp [byteAt, List.getD, hlt]; rfl
      by_cases hc : byteAt s k = c
      · have e1 := u8_eq' (hb ▸ hc)
        go_wp2_with fail
        go_ret
        exact ⟨ret_bool (hasB_yes hlt hc).symm, rfl⟩
      · have e1 := u8_ne' (hb ▸ hc)
        go_wp2_with fail
        go_round
        case rel => exact ⟨k + 1, by omega, by go_num, fun j hj => by
          by_cases hjk : j = k
          · subst hjk; exact hc
          · exact HA.out j (by omega)⟩
        case measure => simp [intOf]; omega
    · obtain rfl : k = s.size := by omega
      go_wp2_with fail
      go_ret
      exact ⟨ret_bool (hasB_no HA.out).symm, rfl⟩

end Go.Proofs.YtpaeloadmjblpaaDoor
