/- The walk of the statement FoldNumbers. -/
import Derived.Test.YtiogomkonladaaaDoorSpeaks
import Derived.Test.YtiogomkonladaaaDoorRefNumber
import Derived.Test.YtiogomkonladaaaDoorKind
namespace Go.Proofs.YtiogomkonladaaaDoor
open Go.RowKit

set_option maxHeartbeats 4000000 in
set_option maxRecDepth 100000 in
theorem numbers_walk (s : ByteArray) (most : Nat) (w : World) (hg : Handle w) (hs : s.size ≤ 2000) (hm : most < 18446744073709551616) :
    Calls Tryd.prog 3 #[.string s, .int .u64 (most : Int)] w fun e w' => e = .returned (.bool true) ∧ Below w.heap.size w w' := by
  go_enter Tryd.func3, Tryd.ntmps3
  go_wp2_with fail
  refine (law_speaks _).mono ?_
  rintro e w1 ⟨rfl, hb1⟩
  go_wp2_with fail
  refine (fold_Decimal s most _ (by omega) hm).mono ?_
  rintro e w2 ⟨v1, rfl, hv1, hb2⟩
  generalize hr1 : numRes s 10 most = r1 at *
  go_wp2_with fail
  refine (fold_Hex s most _ (by omega) hm).mono ?_
  rintro e w3 ⟨v2, rfl, hv2, hb3⟩
  generalize hr2 : numRes s 16 most = r2 at *
  have hv1 := hv1.below hb3
  have hb13 := Bt (Bt hb1 hb2) hb3
  clear hb1 hb2 hb3
  have HR1 := Lib.hid hr1
  have HR2 := Lib.hid hr2
  clear hr1 hr2
  go_wp2_with fail
  refine (ref_Number s 10 most _ (by omega) (by omega) (by omega) hm).mono ?_
  rintro e w4 ⟨rfl, q4, rfl⟩
  rw [HR1.out]
  go_wp2_with fail
  refine (ref_Number s 16 most _ (by omega) (by omega) (by omega) hm).mono ?_
  rintro e w5 ⟨rfl, q5, hw5⟩
  rw [HR2.out]
  have hb15 : Below w.heap.size w w5 := by rw [← hw5]; exact below_drewN (below_drewN hb13 _) _
  have hv1 : IsErr w5 v1 r1.2.1 r1.2.2 := by rw [← hw5]; exact hv1
  have hv2 : IsErr w5 v2 r2.2.1 r2.2.2 := by rw [← hw5]; exact hv2
  clear hw5 hb13
  obtain ⟨n1, k1, i1⟩ := r1
  obtain ⟨n2, k2, i2⟩ := r2
  go_wp2_with fail
  have hg5 := hg.below hb15
  rcases hv1 with ⟨rfl, rfl⟩ | ⟨hk1, in1, hv1⟩
  · refine (fault_Kind_nil _).mono ?_
    rintro e w7 ⟨rfl, hb7⟩
    have hv2 := hv2.below hb7
    have hg7 := hg5.below hb7
    have hb17 := Bt hb15 hb7
    clear hb7 hb15 hg5
    go_wp2_with fail
    rcases hv2 with ⟨rfl, rfl⟩ | ⟨hk2, in2, hv2⟩
    · refine (fault_Kind_nil _).mono ?_
      rintro e w8 ⟨rfl, hb8⟩
      have hb18 := Bt hb17 hb8
      clear hb8 hb17
      go_wp2_with fail
      go_ret
      exact ⟨by simp, hb18⟩
    · refine (fault_Kind_is _ _ _ _ _ hg7 hv2).mono ?_
      rintro e w8 ⟨rfl, hb8⟩
      obtain ⟨p2, hp2⟩ := hv2.ne_nil
      have hv28 := hv2.below hb8
      have hg8 := hg7.below hb8
      have hb18 := Bt hb17 hb8
      subst hp2
      clear hb8 hb17 hv2 hg7
      go_wp2_with fail
      refine (fault_At_is _ _ _ _ _ hg8 hv28).mono ?_
      rintro e w9 ⟨rfl, hb9⟩
      have hb19 := Bt hb18 hb9
      clear hb9 hb18
      go_wp2_with fail
      go_ret
      exact ⟨by simp, hb19⟩
  · refine (fault_Kind_is _ _ _ _ _ hg5 hv1).mono ?_
    rintro e w6 ⟨rfl, hb6⟩
    obtain ⟨p1, hp1⟩ := hv1.ne_nil
    have hv16 := hv1.below hb6
    have hg6 := hg5.below hb6
    have hv26 := hv2.below hb6
    have hb16 := Bt hb15 hb6
    subst hp1
    clear hb6 hb15 hv1 hv2 hg5
    go_wp2_with fail
    refine (fault_At_is _ _ _ _ _ hg6 hv16).mono ?_
    rintro e w7 ⟨rfl, hb7⟩
    have hv2 := hv26.below hb7
    have hg7 := hg6.below hb7
    have hb17 := Bt hb16 hb7
    clear hb7 hb16 hg6 hv16 hv26
    go_wp2_with fail
    rcases hv2 with ⟨rfl, rfl⟩ | ⟨hk2, in2, hv2⟩
    · refine (fault_Kind_nil _).mono ?_
      rintro e w8 ⟨rfl, hb8⟩
      have hb18 := Bt hb17 hb8
      clear hb8 hb17
      go_wp2_with fail
      go_ret
      exact ⟨by simp, hb18⟩
    · refine (fault_Kind_is _ _ _ _ _ hg7 hv2).mono ?_
      rintro e w8 ⟨rfl, hb8⟩
      obtain ⟨p2, hp2⟩ := hv2.ne_nil
      have hv28 := hv2.below hb8
      have hg8 := hg7.below hb8
      have hb18 := Bt hb17 hb8
      subst hp2
      clear hb8 hb17 hv2 hg7
      go_wp2_with fail
      refine (fault_At_is _ _ _ _ _ hg8 hv28).mono ?_
      rintro e w9 ⟨rfl, hb9⟩
      have hb19 := Bt hb18 hb9
      clear hb9 hb18
      go_wp2_with fail
      go_ret
      exact ⟨by simp, hb19⟩

theorem numbers_walk_long (s : ByteArray) (most : Int) (w : World) (hs : 2000 < s.size) :
    Calls Tryd.prog 3 #[.string s, .int .u64 most] w fun e w' => e = .returned (.bool true) ∧ Below w.heap.size w w' := by
  go_enter Tryd.func3, Tryd.ntmps3
  go_wp2_with fail
  refine (law_speaks _).mono ?_
  rintro e w1 ⟨rfl, hb1⟩
  go_wp2_with fail
  go_ret
  exact ⟨rfl, hb1⟩

theorem walkFoldNumbers (s : ByteArray) (a : Int) (w : World) (hg : Handle w) (ws : s.size ≤ maxLen) (wa : (Lit.int .u64 a).wf = true) :
    Calls Tryd.prog 3 #[.string s, .int .u64 a] w fun e w' => e = .returned (.bool true) ∧ Below w.heap.size w w' := by
  have h0 : 0 ≤ a ∧ a ≤ 18446744073709551615 := by simpa [Lit.wf, IntKind.min, IntKind.max, IntKind.signed, IntKind.bits] using wa
  obtain ⟨n, rfl⟩ := Int.eq_ofNat_of_zero_le h0.1
  by_cases hs : s.size ≤ 2000
  · exact numbers_walk s n w hg hs (by omega)
  · exact numbers_walk_long s n w (by omega)
end Go.Proofs.YtiogomkonladaaaDoor
