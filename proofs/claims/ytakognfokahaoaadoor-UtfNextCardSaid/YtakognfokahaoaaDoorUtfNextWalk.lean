/- The walk of UtfNext. -/
import Derived.Test.YtakognfokahaoaaDoorSpeaks01
import Derived.Test.YtakognfokahaoaaDoorRefNext
import Derived.Test.YtakognfokahaoaaDoorRowed
namespace Go.Proofs.YtakognfokahaoaaDoor
open Go.RowKit

set_option maxHeartbeats 800000 in
theorem utfNext_long (pa : Option Addr) (la ca : Nat) (i : Int) (h : 5000 < la) (w : World) (hg : Handle w) (hU : Utf8Laid w) :
    Calls Tryd.prog 3 #[.slice pa la ca, .int .i64 i] w fun e w' => e = .returned (.bool true) ∧ Below w.heap.size w w' := by
  go_enter Tryd.func3, Tryd.ntmps3
  go_wp2_with fail
  refine (speaks01 _ hg hU).mono ?_
  rintro e w1 ⟨rfl, hb1⟩
  go_wp2_with fail
  go_ret
  exact ⟨rfl, hb1⟩

set_option maxHeartbeats 1600000 in
theorem utfNext_out (pa : Option Addr) (la ca : Nat) (i : Int) (hl : la ≤ 5000) (h : i < 0 ∨ (0 ≤ i ∧ (la : Int) < i)) (w : World) (hg : Handle w) (hU : Utf8Laid w) :
    Calls Tryd.prog 3 #[.slice pa la ca, .int .i64 i] w fun e w' => e = .returned (.bool true) ∧ Below w.heap.size w w' := by
  have hc := fun W => utf_Next_arg pa la ca i W (by omega)
  have HC := Lib.hid hc
  clear hc
  rcases h with h | ⟨h, h'⟩
  all_goals
    go_enter Tryd.func3, Tryd.ntmps3
    go_wp2_with fail
    refine (speaks01 _ hg hU).mono ?_
    rintro e w1 ⟨rfl, hb1⟩
    have hg := hg.below hb1
    clear hU
    go_wp2_with fail
    refine (HC.out _).mono ?_
    rintro e w2 ⟨v, rfl, hv, hb⟩
    have hg := hg.below hb
    have hb1 := Bt hb1 hb
    clear hb
    obtain ⟨p, rfl⟩ := hv.ne_nil
    go_wp2_with fail
    refine (fault_Kind_is _ _ _ _ _ hg hv).mono ?_
    rintro e w3 ⟨rfl, hb⟩
    have hg := hg.below hb
    have hv := FaultIs.below hv hb
    have hb1 := Bt hb1 hb
    clear hb
    go_wp2_with fail
    refine (fault_At_is _ _ _ _ _ hg hv).mono ?_
    rintro e w3 ⟨rfl, hb⟩
    have hb1 := Bt hb1 hb
    clear hb
    go_wp2_with fail
    go_ret
    exact ⟨by simp, hb1⟩

set_option maxHeartbeats 1600000 in
theorem utfNext_end (pa : Option Addr) (la ca : Nat) (hl : la ≤ 5000) (w : World) (hg : Handle w) (hU : Utf8Laid w) :
    Calls Tryd.prog 3 #[.slice pa la ca, .int .i64 (la : Int)] w fun e w' => e = .returned (.bool true) ∧ Below w.heap.size w w' := by
  have hc := fun W => utf_Next_end pa la ca W (by omega)
  have HC := Lib.hid hc
  clear hc
  go_enter Tryd.func3, Tryd.ntmps3
  go_wp2_with fail
  refine (speaks01 _ hg hU).mono ?_
  rintro e w1 ⟨rfl, hb1⟩
  have hg := hg.below hb1
  clear hU
  go_wp2_with fail
  refine (HC.out _).mono ?_
  rintro e w2 ⟨v, rfl, hv, hb⟩
  have hg := hg.below hb
  have hb1 := Bt hb1 hb
  clear hb
  obtain ⟨p, rfl⟩ := hv.ne_nil
  go_wp2_with fail
  refine (fault_Kind_is _ _ _ _ _ hg hv).mono ?_
  rintro e w3 ⟨rfl, hb⟩
  have hg := hg.below hb
  have hv := FaultIs.below hv hb
  have hb1 := Bt hb1 hb
  clear hb
  go_wp2_with fail
  refine (fault_At_is _ _ _ _ _ hg hv).mono ?_
  rintro e w3 ⟨rfl, hb⟩
  have hb1 := Bt hb1 hb
  clear hb
  go_wp2_with fail
  go_ret
  exact ⟨by simp, hb1⟩

set_option maxHeartbeats 1600000 in
theorem utfNext_in (s : ByteArray) (i b off cap : Nat) (w : World) (hs : s.size ≤ 5000) (hi : i < s.size) (hc : s.size ≤ cap) (hcm : cap ≤ maxLen) (hbs : b < w.heap.size) (hp : BytesIn w b off s) (hg : Handle w) (hU : Utf8Laid w) :
    Calls Tryd.prog 3 #[.slice (some ⟨b, off, none⟩) s.size cap, .int .i64 (i : Int)] w fun e w' => e = .returned (.bool true) ∧ Below w.heap.size w w' := by
  unfold maxLen at hcm
  go_enter Tryd.func3, Tryd.ntmps3
  go_wp2_with fail
  refine (speaks01 _ hg hU).mono ?_
  rintro e w1 ⟨rfl, hb1⟩
  have hg := hg.below hb1
  have hU := hU.below hb1
  have hp := hp.below hb1 hbs
  have hbs := Nat.lt_of_lt_of_le hbs hb1.size
  go_wp2_with fail
  refine (utf_Next s i b off cap _ hU hi hc hcm hp).mono ?_
  rintro e w2 ⟨hb2, h⟩
  have hg := hg.below hb2
  have hp := hp.below hb2 hbs
  have hbs := Nat.lt_of_lt_of_le hbs hb2.size
  have hb1 := Bt hb1 hb2
  clear hb2 hU
  rcases h with ⟨hok, rfl⟩ | ⟨hok, v, rfl, hv⟩
  · have hr : (decB s i).1 = refC s i ∧ (decB s i).2 = refN s i := ref_yes ⟨hok, rfl⟩
    have hd := (decB_bounds s i hi).1
    have hd2 := (decB_bounds s i hi).2.1
    generalize (decB s i).1 = c at *
    generalize (decB s i).2 = n at *
    have HR := Lib.hid hr
    clear hr hok
    go_wp2_with fail
    refine (ref_Next s i b off cap _ hi (by omega) hc hcm hbs hp).mono ?_
    rintro e w3 ⟨rfl, hb3⟩
    have hb1 := Bt hb1 hb3
    clear hb3
    rw [← HR.out.1, ← HR.out.2]
    have e0 : ((n : Int) == 0) = false := by rw [beq_eq_false_iff_ne]; omega
    go_wp2_with fail
    go_ret
    exact ⟨by simp, hb1⟩
  · obtain ⟨p, rfl⟩ := hv.ne_nil
    have HR := Lib.hid (ref_no hok)
    clear hok
    go_wp2_with fail
    refine (ref_Next s i b off cap _ hi (by omega) hc hcm hbs hp).mono ?_
    rintro e w3 ⟨rfl, hb3⟩
    have hg := hg.below hb3
    have hv := FaultIs.below hv hb3
    have hb1 := Bt hb1 hb3
    clear hb3
    rw [← HR.out.1, ← HR.out.2]
    go_wp2_with fail
    refine (fault_Kind_is _ _ _ _ _ hg hv).mono ?_
    rintro e w3 ⟨rfl, hb⟩
    have hg := hg.below hb
    have hv := FaultIs.below hv hb
    have hb1 := Bt hb1 hb
    clear hb
    go_wp2_with fail
    refine (fault_At_is _ _ _ _ _ hg hv).mono ?_
    rintro e w3 ⟨rfl, hb⟩
    have hb1 := Bt hb1 hb
    clear hb
    go_wp2_with fail
    go_ret
    exact ⟨by simp, hb1⟩

theorem walkUtfNext (pa : Option Addr) (la ca : Nat) (za : List Int) (i : Int) (w : World) (hg : Handle w) (hU : Utf8Laid w) (ra : IsRow .u8 w pa la ca za) (_ : (Lit.int .i64 i).wf = true) :
    Calls Tryd.prog 3 #[.slice pa la ca, .int .i64 i] w fun e w' => e = .returned (.bool true) ∧ Below w.heap.size w w' := by
  by_cases hl : la ≤ 5000
  · by_cases ho : i < 0 ∨ (0 ≤ i ∧ (la : Int) < i)
    · exact utfNext_out pa la ca i hl ho w hg hU
    · by_cases he : i = (la : Int)
      · subst he
        exact utfNext_end pa la ca hl w hg hU
      · obtain ⟨s, rfl, hs⟩ := ra.bytes
        obtain ⟨n, rfl⟩ := Int.eq_ofNat_of_zero_le (show 0 ≤ i by omega)
        rcases hs with ⟨h0, _⟩ | ⟨b, off, cap, e, h1, h2, h3, h4⟩
        · omega
        · cases e
          exact utfNext_in s n b off ca w hl (by omega) h1 h2 h3 h4 hg hU
  · exact utfNext_long pa la ca i (by omega) w hg hU
end Go.Proofs.YtakognfokahaoaaDoor
