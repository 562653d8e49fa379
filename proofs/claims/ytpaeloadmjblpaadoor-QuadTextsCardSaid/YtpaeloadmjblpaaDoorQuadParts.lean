/- quad.hexed, part, number, checked. -/
import Derived.Test.YtpaeloadmjblpaaDoorQuadPlain
import Derived.Test.YtpaeloadmjblpaaDoorQuadLib
namespace Go.Proofs.YtpaeloadmjblpaaDoor
open Go.RowKit

theorem or_x (n : Nat) (h : n < 256) : ((bits .or .u8 (n : Int) 32 == 120) : Bool) = (decide (n = 120) || decide (n = 88)) := by
  have : ∀ n : Fin 256, ((bits .or .u8 (n.1 : Int) 32 == 120) : Bool) = (decide (n.1 = 120) || decide (n.1 = 88)) := by decide +kernel
  exact this ⟨n, h⟩
set_option maxHeartbeats 800000 in
theorem quad_hexed (s : ByteArray) (hs : s.size ≤ 16777216) (w : World) : Calls Tryd.prog 32 #[.string s] w fun e w' => e = .returned (.tuple #[.string (if hexedB s = true then s.extract 2 s.size else ⟨#[]⟩), .bool (hexedB s)]) ∧ w = w' := by
  by_cases h1 : 1 < s.size
  · have g0 : 0 < s.size := by omega
    have b0 := byteAt_idx g0
    have b1 := byteAt_idx h1
    have hd : decide ((1 : Int) < (s.size : Int)) = true := decide_eq_true (by omega)
    have h1I : (1 : Int) < (s.size : Int) := by omega
    have h2I : (2 : Int) ≤ (s.size : Int) := by omega
    have hor := or_x (byteAt s 1).toNat (byteAt s 1).toNat_lt
    have hx : hexedB s = (decide (byteAt s 0 = 48) && (decide ((byteAt s 1).toNat = 120) || decide ((byteAt s 1).toNat = 88))) := by unfold hexedB; rw [decide_eq_true h1, Bool.true_and]
    rw [← hor] at hx
    clear hor
    by_cases h0 : byteAt s 0 = 48
    · have e0 : (((byteAt s 0).toNat : Int) == 48) = true := by rw [h0]; rfl
      rw [decide_eq_true h0, Bool.true_and] at hx
      rw [hx]
      clear hx h0
      generalize hq : (bits .or .u8 ((byteAt s 1).toNat : Int) 32 == 120) = q at *
      cases q
      all_goals
        go_enter Tryd.func32, Tryd.ntmps32
        go_wp2_with fail
        go_ret2
        exact ⟨rfl, rfl⟩
    · have e0 : (((byteAt s 0).toNat : Int) == 48) = false := u8_ne' (b := 48) h0
      rw [decide_eq_false h0, Bool.false_and] at hx
      rw [hx]
      clear hx h0
      go_enter Tryd.func32, Tryd.ntmps32
      go_wp2_with fail
      go_ret2
      exact ⟨rfl, rfl⟩
  · have hx : hexedB s = false := by unfold hexedB; rw [decide_eq_false h1, Bool.false_and]
    rw [hx]
    go_enter Tryd.func32, Tryd.ntmps32
    go_wp2_with fail
    go_ret2
    exact ⟨rfl, rfl⟩

theorem digsQ_of {s : ByteArray} {b k : Nat} {m : ByteArray} (h : formQ s = (b, k, m)) : digsQ s = s.extract k s.size := by unfold digsQ; rw [h]
theorem whole (s : ByteArray) : s.extract 0 s.size = s := by
  apply ByteArray.ext
  apply Array.ext'
  rw [Lib.extract_data]
  have hl : s.data.toList.length = s.size := rfl
  rw [List.drop_zero, Nat.sub_zero, ← hl, List.take_length]
theorem ret_part {a b c d : ByteArray} {x y : Int} (h1 : a = b) (h2 : x = y) (h3 : c = d) : Ending.returned (.tuple #[.string a, .int .i64 x, .string c]) = .returned (.tuple #[.string b, .int .i64 y, .string d]) := by rw [h1, h2, h3]
set_option maxHeartbeats 800000 in
theorem quad_part (s : ByteArray) (hs : s.size ≤ 16777216) (w : World) : Calls Tryd.prog 41 #[.string s] w fun e w' => e = .returned (.tuple #[.string (digsQ s), .int .i64 ((formQ s).2.1 : Nat), .string (formQ s).2.2]) ∧ w = w' := by
  have cH := Lib.hid (fun W => quad_hexed s hs W)
  rcases formQ_three s with ⟨hx, hf, h2⟩ | ⟨hx, ho, hf, h2⟩ | ⟨hx, ho, hf⟩
  · have hd := digsQ_of hf
    rw [hx] at cH
    rw [hf, hd]
    clear hf hd hx
    go_enter Tryd.func41, Tryd.ntmps41
    go_wp2_with fail
    refine (cH.out _).mono ?_
    rintro e w2 ⟨rfl, rfl⟩
    go_wp2_with fail
    go_ret3
    exact ⟨rfl, rfl⟩
  · have hd := digsQ_of hf
    rw [hx] at cH
    rw [hf, hd]
    have g0 : 0 < s.size := by omega
    have b0 := byteAt_idx g0
    have h1I : (1 : Int) < (s.size : Int) := by omega
    have hd1 : decide ((1 : Int) < (s.size : Int)) = true := decide_eq_true h1I
    have h0 : byteAt s 0 = 48 := by unfold octB at ho; simp at ho; exact ho.2
    have e0 : (((byteAt s 0).toNat : Int) == 48) = true := by rw [h0]; rfl
    clear hf hd hx ho h0
    go_enter Tryd.func41, Tryd.ntmps41
    go_wp2_with fail
    refine (cH.out _).mono ?_
    rintro e w2 ⟨rfl, rfl⟩
    go_wp2_with fail
    go_ret3
    exact ⟨rfl, rfl⟩
  · have hd := digsQ_of hf
    rw [whole] at hd
    rw [hx] at cH
    rw [hf, hd]
    clear hf hd hx
    by_cases h1 : 1 < s.size
    · have g0 : 0 < s.size := by omega
      have b0 := byteAt_idx g0
      have h1I : (1 : Int) < (s.size : Int) := by omega
      have hd1 : decide ((1 : Int) < (s.size : Int)) = true := decide_eq_true h1I
      have h0 : byteAt s 0 ≠ 48 := by unfold octB at ho; simpa [h1] using ho
      have e0 : (((byteAt s 0).toNat : Int) == 48) = false := u8_ne' (b := 48) h0
      clear ho h0
      go_enter Tryd.func41, Tryd.ntmps41
      go_wp2_with fail
      refine (cH.out _).mono ?_
      rintro e w2 ⟨rfl, rfl⟩
      go_wp2_with fail
      go_ret3
      exact ⟨rfl, rfl⟩
    · have hd1 : decide ((1 : Int) < (s.size : Int)) = false := decide_eq_false (by omega)
      clear ho
      go_enter Tryd.func41, Tryd.ntmps41
      go_wp2_with fail
      refine (cH.out _).mono ?_
      rintro e w2 ⟨rfl, rfl⟩
      go_wp2_with fail
      go_ret3
      exact ⟨rfl, rfl⟩
end Go.Proofs.YtpaeloadmjblpaaDoor
