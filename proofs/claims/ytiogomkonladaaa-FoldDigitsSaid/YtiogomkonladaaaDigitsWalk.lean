/- The walk of the statement FoldDigits. -/
import Derived.Test.YtiogomkonladaaaSpeaks
import Derived.Test.YtiogomkonladaaaRefWritten
namespace Go.Proofs.Ytiogomkonladaaa
open Go.RowKit

theorem writ_size (base n width : Nat) (hw : width ≤ 16) : (⟨(writ base n width).toArray⟩ : ByteArray).size ≤ 64 := by
  rw [str_size, writ, digs_length]
  have := ndigs_le base 64 n
  omega
theorem writ_read (base n width : Nat) (hb : 2 ≤ base) (hb2 : base ≤ 16) (hn : n < 18446744073709551616) : numRes ⟨(writ base n width).toArray⟩ base 18446744073709551615 = (n, 0, 0) := by
  have h64 : n < base ^ 64 := Nat.lt_of_lt_of_le hn (Nat.le_trans (by decide) (Nat.pow_le_pow_left hb 64))
  refine numRes_digs base hb hb2 _ n (by omega) (Nat.lt_of_lt_of_le (ndigs_lt base hb 64 n h64) (Nat.pow_le_pow_right (by omega) (by omega))) hn

set_option maxHeartbeats 1600000 in
set_option maxRecDepth 100000 in
theorem digits_walk (n : Nat) (width : Int) (w : World) (hn : n < 18446744073709551616) (hw1 : width ≤ 9223372036854775807) (hw2 : -9223372036854775808 ≤ width) :
    Calls Try.prog 4 #[.int .u64 (n : Int), .int .i64 width] w fun e w' => e = .returned (.bool true) ∧ Below w.heap.size w w' := by
  have r10 := Lib.hid (writ_read 10 n 1 (by omega) (by omega) hn)
  have r16 := Lib.hid (writ_read 16 n (min width 16).toNat (by omega) (by omega) hn)
  have s10 := writ_size 10 n 1 (by omega)
  have s16 := writ_size 16 n (min width 16).toNat (by omega)
  generalize hd : (⟨(writ 10 n 1).toArray⟩ : ByteArray) = d at *
  generalize hh : (⟨(writ 16 n (min width 16).toNat).toArray⟩ : ByteArray) = h at *
  have HD := Lib.hid hd
  have HH := Lib.hid hh
  clear hd hh
  have q1 : (d.toList == d.toList) = true := by simp
  have q2 : (h.toList == h.toList) = true := by simp
  go_enter Try.func4, Try.ntmps4
  go_wp2_with fail
  refine (law_speaks _).mono ?_
  rintro e w1 ⟨rfl, hb1⟩
  go_wp2_with fail
  refine (fold_Digits n _ hn).mono ?_
  rintro e w2 ⟨rfl, hb2⟩
  rw [HD.out]
  go_wp2_with fail
  refine (fold_HexDigits n width _ hn hw2).mono ?_
  rintro e w3 ⟨rfl, hb3⟩
  rw [HH.out]
  go_wp2_with fail
  refine (fold_Decimal_max d _ (by omega)).mono ?_
  rintro e w4 hp4
  obtain ⟨rfl, hb4⟩ := hp4.right r10.out
  clear hp4
  go_wp2_with fail
  refine (fold_Hex_max h _ (by omega)).mono ?_
  rintro e w5 hp5
  obtain ⟨rfl, hb5⟩ := hp5.right r16.out
  clear hp5
  have hb15 : Below w.heap.size w w5 := Bt (Bt (Bt (Bt hb1 hb2) hb3) hb4) hb5
  clear hb1 hb2 hb3 hb4 hb5
  go_wp2_with fail
  refine (ref_Written n 10 1 _ hn (by omega) (by omega) (by omega) (by omega)).mono ?_
  rintro e w6 ⟨rfl, q6, rfl⟩
  have e1 : (min (1 : Int) 16).toNat = 1 := by decide
  rw [e1, HD.out]
  clear e1
  go_wp2_with fail
  refine (ref_Written n 16 width _ hn (by omega) (by omega) hw1 hw2).mono ?_
  rintro e w7 ⟨rfl, q7, rfl⟩
  rw [HH.out]
  go_wp2_with fail
  go_ret
  exact ⟨by simp, below_drewN hb15 _⟩

theorem walkFoldDigits (a0 a1 : Int) (w : World) (w0 : (Lit.int .u64 a0).wf = true) (w1 : (Lit.int .i64 a1).wf = true) :
    Calls Try.prog 4 #[.int .u64 a0, .int .i64 a1] w fun e w' => e = .returned (.bool true) ∧ Below w.heap.size w w' := by
  have h0 : 0 ≤ a0 ∧ a0 ≤ 18446744073709551615 := by simpa [Lit.wf, IntKind.min, IntKind.max, IntKind.signed, IntKind.bits] using w0
  have h1 : -9223372036854775808 ≤ a1 ∧ a1 ≤ 9223372036854775807 := by simpa [Lit.wf, IntKind.min, IntKind.max, IntKind.signed, IntKind.bits] using w1
  obtain ⟨n, rfl⟩ := Int.eq_ofNat_of_zero_le h0.1
  exact digits_walk n a1 w (by omega) h1.2 h1.1
end Go.Proofs.Ytiogomkonladaaa
