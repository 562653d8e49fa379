/- strings.TrimSuffix at a point, strings.LastIndexByte; quad.cut, and the reference's. -/
import Derived.Test.YtpaeloadmjblpaaDoorKit
import Derived.Test.YtpaeloadmjblpaaDoorStrs
import Derived.Test.YtpaeloadmjblpaaDoorBa
import Derived.Test.YtpaeloadmjblpaaDoorOfL
namespace Go.Proofs.YtpaeloadmjblpaaDoor
open Go.RowKit

theorem byteAt_idx {s : ByteArray} {i : Nat} (h : i < s.size) : s[i] = byteAt s i := by simp [byteAt, List.getD, h]; rfl
theorem last_point {s : ByteArray} {n : Nat} (h : s.size = n + 1) : ((s.extract n s.size).toList == [46]) = decide (byteAt s n = 46) := by
  have e0 : ([46] : List UInt8) = (⟨#[46]⟩ : ByteArray).toList := by rw [ByteArray.toList_eq]
  rw [e0, str_eqB, h, extract_one (by omega), show (⟨#[46]⟩ : ByteArray) = ofL [46] from rfl]
  by_cases hb : byteAt s n = 46
  · rw [hb]; simp
  · rw [decide_eq_false hb, decide_eq_false]
    intro e
    have := congrArg (fun x => x.data.toList) e
    simp [ofL] at this
    exact hb this
set_option maxHeartbeats 800000 in
theorem has_suffix (s : ByteArray) (n : Nat) (h : s.size = n + 1) (hs : s.size ≤ 16777216) (w : World) : Calls Tryd.prog 64 #[.string s, .string ⟨#[46]⟩] w fun e w' => e = .returned (.bool (decide (byteAt s n = 46))) ∧ w = w' := by
  have hl := last_point h
  have h1 : ¬ (s.size : Int) < 1 := by omega
  have h2 : ((s.size : Int) - 1).toNat = n := by omega
  have h3 : (1 : Int) ≤ (s.size : Int) := by omega
  clear h
  go_enter Tryd.func64, Tryd.ntmps64
  go_wp2_with fail
  go_ret
  exact ⟨rfl, rfl⟩
set_option maxHeartbeats 800000 in
theorem sl_trim (s : ByteArray) (n : Nat) (h : s.size = n + 1) (hs : s.size ≤ 16777216) (w : World) : Calls Tryd.prog 56 #[.string s, .string ⟨#[46]⟩] w fun e w' => e = .returned (.string (if byteAt s n = 46 then s.extract 0 n else s)) ∧ w = w' := by
  have c1 := Lib.hid (fun W => has_suffix s n h hs W)
  have h2 : ((s.size : Int) - 1).toNat = n := by omega
  have h3 : (1 : Int) ≤ (s.size : Int) := by omega
  clear h
  by_cases hb : byteAt s n = 46
  · rw [if_pos hb]
    rw [decide_eq_true hb] at c1
    clear hb
    go_enter Tryd.func56, Tryd.ntmps56
    go_wp2_with fail
    refine (c1.out _).mono ?_
    rintro e w2 ⟨rfl, rfl⟩
    go_wp2_with fail
    go_ret
    exact ⟨rfl, rfl⟩
  · rw [if_neg hb]
    rw [decide_eq_false hb] at c1
    clear hb
    go_enter Tryd.func56, Tryd.ntmps56
    go_wp2_with fail
    refine (c1.out _).mono ?_
    rintro e w2 ⟨rfl, rfl⟩
    go_wp2_with fail
    go_ret
    exact ⟨rfl, rfl⟩
theorem str_trim (s : ByteArray) (n : Nat) (h : s.size = n + 1) (hs : s.size ≤ 16777216) (w : World) : Calls Tryd.prog 40 #[.string s, .string ⟨#[46]⟩] w fun e w' => e = .returned (.string (if byteAt s n = 46 then s.extract 0 n else s)) ∧ w = w' := by
  have c1 := Lib.hid (fun W => sl_trim s n h hs W)
  clear h
  generalize (if byteAt s n = 46 then s.extract 0 n else s) = r at *
  go_enter Tryd.func40, Tryd.ntmps40
  go_wp2_with fail
  refine (c1.out _).mono ?_
  rintro e w2 ⟨rfl, rfl⟩
  go_wp2_with fail
  go_ret
  exact ⟨rfl, rfl⟩
/-- A text without a point at its end. -/
def cutP (s : ByteArray) : ByteArray := if 1 < s.size ∧ byteAt s (s.size - 1) = 46 then s.extract 0 (s.size - 1) else s
theorem cutP_long {s : ByteArray} {n : Nat} (h : s.size = n + 1) (h1 : 1 < s.size) : (if byteAt s n = 46 then s.extract 0 n else s) = cutP s := by
  unfold cutP
  rw [show s.size - 1 = n by omega]
  by_cases hb : byteAt s n = 46
  · rw [if_pos hb, if_pos ⟨h1, hb⟩]
  · rw [if_neg hb, if_neg (fun h => hb h.2)]
theorem cutP_short {s : ByteArray} (h1 : ¬ 1 < s.size) : cutP s = s := by unfold cutP; rw [if_neg (fun h => h1 h.1)]
theorem cutP_size (s : ByteArray) : (cutP s).size ≤ s.size := by
  unfold cutP
  split
  · rw [ByteArray.size_extract]; omega
  · exact Nat.le_refl _
theorem quad_cut (s : ByteArray) (hs : s.size ≤ 16777216) (w : World) : Calls Tryd.prog 20 #[.string s] w fun e w' => e = .returned (.string (cutP s)) ∧ w = w' := by
  by_cases h1 : 1 < s.size
  · obtain ⟨n, hn⟩ : ∃ n, s.size = n + 1 := ⟨s.size - 1, by omega⟩
    have c1 := Lib.hid (fun W => (cutP_long hn h1) ▸ str_trim s n hn hs W)
    clear hn
    generalize cutP s = r at *
    go_enter Tryd.func20, Tryd.ntmps20
    go_wp2_with fail
    refine (c1.out _).mono ?_
    rintro e w2 ⟨rfl, rfl⟩
    go_wp2_with fail
    go_ret
    exact ⟨rfl, rfl⟩
  · rw [cutP_short h1]
    go_enter Tryd.func20, Tryd.ntmps20
    go_wp2_with fail
    go_ret
    exact ⟨rfl, rfl⟩
theorem ref11_cut (s : ByteArray) (hs : s.size ≤ 16777216) (w : World) : Calls Tryd.prog 25 #[.string s] w fun e w' => e = .returned (.string (cutP s)) ∧ w = w' := by
  by_cases h1 : 1 < s.size
  · obtain ⟨n, hn⟩ : ∃ n, s.size = n + 1 := ⟨s.size - 1, by omega⟩
    have hcl := cutP_long hn h1
    have h2 : ((s.size : Int) - 1).toNat = n := by omega
    have h3 : (1 : Int) < (s.size : Int) := by omega
    have h4 : n < s.size := by omega
    have hb := byteAt_idx h4
    clear hn
    by_cases hp : byteAt s n = 46
    · rw [if_pos hp] at hcl
      rw [← hcl]
      have hp2 : (((byteAt s n).toNat : Int) == 46) = true := by rw [hp]; rfl
      clear hcl hp
      go_enter Tryd.func25, Tryd.ntmps25
      go_wp2_with fail
      go_ret
      exact ⟨rfl, rfl⟩
    · rw [if_neg hp] at hcl
      rw [← hcl]
      have hp2 : (((byteAt s n).toNat : Int) == 46) = false := u8_ne' (b := 46) hp
      clear hcl hp
      go_enter Tryd.func25, Tryd.ntmps25
      go_wp2_with fail
      go_ret
      exact ⟨rfl, rfl⟩
  · rw [cutP_short h1]
    go_enter Tryd.func25, Tryd.ntmps25
    go_wp2_with fail
    go_ret
    exact ⟨rfl, rfl⟩
end Go.Proofs.YtpaeloadmjblpaaDoor
