/- fold.Trim, the reference's Trim. -/
import Derived.Test.YtiogomkonladaaaDoorTrimPlain
import Derived.Test.YtiogomkonladaaaDoorShelf
import Derived.Shelf.Strings.SlTrimAscii
namespace Go.Proofs.YtiogomkonladaaaDoor
open Go.RowKit

theorem fold_Trim (s : ByteArray) (w : World) (hs : s.size ≤ 9223372036854775807) : Calls Tryd.prog 14 #[.string s] w fun e w' => e = .returned (.string (trimS s)) ∧ Below w.heap.size w w' := by
  have hc := fun W => Any.strings_Trim_laid Tryd.lays160 (by kernel_rfl) s blanks W hs (by decide) (ascii_of_all (by decide))
  have HC := Lib.hid hc
  clear hc
  go_enter Tryd.func14, Tryd.ntmps14
  go_wp2_with fail
  refine (HC.out _).mono ?_
  rintro e w1 ⟨rfl, hb⟩
  go_wp2_with fail
  go_ret
  exact ⟨rfl, hb⟩

theorem ret_trim {s t : ByteArray} (h : trimS s = t) : Ending.returned (.string t) = .returned (.string (trimS s)) := by rw [h]

set_option maxHeartbeats 1600000 in
theorem ref_Trim (s : ByteArray) (w : World) (hs : s.size ≤ 140737488351232) : Calls Tryd.prog 16 #[.string s] w fun e w' => e = .returned (.string (trimS s)) ∧ w = w' := by
  have hH := fun c W => ref_Has blanks c W (by decide)
  have HH := Lib.hid hH
  clear hH
  go_enter Tryd.func16, Tryd.ntmps16
  go_wp2_with fail
  go_loopw [3] (fun a wr => ∃ i : Nat, i ≤ s.size ∧ a = .int .i64 i ∧ (∀ j, j < i → hasB blanks (byteAt s j) = true) ∧ w = wr) (fun a _ => s.size - (intOf a).toNat)
  case atStart => exact ⟨0, Nat.zero_le _, rfl, fun j hj => by omega, by trivial⟩
  case round =>
    obtain ⟨i, hil, rfl, hall, rfl⟩ := hrel
    have HA := Lib.hid hall
    clear hall
    by_cases hlt : i < s.size
    · have hbk : s[i] = byteAt s i := by simp [byteAt, List.getD, hlt]; rfl
      have HBK := Lib.hid hbk
      have hstep : hasB blanks (byteAt s i) = true → ∀ j, j < i + 1 → hasB blanks (byteAt s j) = true := fun h j hj => by
        by_cases hji : j = i
        · rw [hji]; exact h
        · exact HA.out j (by omega)
      have HS := Lib.hid hstep
      clear hstep hbk
      go_wp2_with fail
      rw [HBK.out]
      clear HBK
      refine (HH.out (byteAt s i) _).mono ?_
      rintro e w2 ⟨rfl, rfl⟩
      by_cases h1 : hasB blanks (byteAt s i) = true
      · rw [h1]
        have H1 := Lib.hid (HS.out h1)
        clear h1
        go_wp2_with fail
        go_roundw
        case rel => exact ⟨i + 1, by omega, by go_num, H1.out, by trivial⟩
        case measure => simp [intOf]; omega
      · have h1 : hasB blanks (byteAt s i) = false := by simpa using h1
        rw [h1]
        have H1 := Lib.hid h1
        clear h1 HS
        go_wp2_with fail
        go_loopw [4] (fun a wr => ∃ b : Nat, i < b ∧ b ≤ s.size ∧ a = .int .i64 b ∧ (∀ j, b ≤ j → j < s.size → hasB blanks (byteAt s j) = true) ∧ w = wr) (fun a _ => (intOf a).toNat)
        case atStart => exact ⟨s.size, hlt, Nat.le_refl _, rfl, fun j h1 h2 => by omega, by trivial⟩
        case round =>
          obtain ⟨b, hib, hbs, rfl, hall, rfl⟩ := hrel
          have HB := Lib.hid hall
          clear hall
          obtain ⟨c, rfl⟩ : ∃ c, b = c + 1 := ⟨b - 1, by omega⟩
          have hlc : c < s.size := by omega
          have hbk : s[c] = byteAt s c := by simp [byteAt, List.getD, hlc]; rfl
          have HBK := Lib.hid hbk
          have hci : (i : Int) < (c : Int) + 1 := by omega
          clear hbk
          go_wp2_with fail
          rw [HBK.out]
          clear HBK
          refine (HH.out (byteAt s c) _).mono ?_
          rintro e w3 ⟨rfl, rfl⟩
          by_cases h2 : hasB blanks (byteAt s c) = true
          · rw [h2]
            have hne : c ≠ i := fun e => by rw [e, H1.out] at h2; cases h2
            have hall : ∀ j, c ≤ j → j < s.size → hasB blanks (byteAt s j) = true := fun j h3 h4 => by
              by_cases hjc : j = c
              · rw [hjc]; exact h2
              · exact HB.out j (by omega) h4
            have HALL := Lib.hid hall
            clear hall h2
            have hlt2 : i < c := by omega
            clear hne
            go_wp2_with fail
            go_roundw
            case rel => exact ⟨c, hlt2, by omega, by go_num, HALL.out, by trivial⟩
            case measure => simp [intOf]
          · have h2 : hasB blanks (byteAt s c) = false := by simpa using h2
            rw [h2]
            have HT := Lib.hid (trim_is (s := s) (a := i) (b := c + 1) (by omega) (by omega) HA.out HB.out (fun _ => H1.out) (fun _ => h2))
            clear h2
            go_wp2_with fail
            go_ret
            exact ⟨ret_trim HT.out, by trivial⟩
    · obtain rfl : i = s.size := by omega
      go_wp2_with fail
      refine wp_loop_rounds 1 ?_
      rw [rounds_succ]
      go_wp2_with fail
      go_ret
      refine ⟨ret_trim ?_, rfl⟩
      have := trim_is (s := s) (a := s.size) (b := s.size) (Nat.le_refl _) (Nat.le_refl _) HA.out (fun j h1 h2 => by omega) (fun h => absurd h (Nat.lt_irrefl _)) (fun h => absurd h (Nat.lt_irrefl _))
      rw [this, Lib.extract_eq, Nat.sub_self]
      rfl
end Go.Proofs.YtiogomkonladaaaDoor
