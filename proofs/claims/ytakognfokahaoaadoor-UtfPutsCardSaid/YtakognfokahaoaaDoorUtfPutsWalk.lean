/- The walk of UtfPuts. -/
import Derived.Test.YtakognfokahaoaaDoorSpeaks01
import Derived.Test.YtakognfokahaoaaDoorRefText
import Derived.Test.YtakognfokahaoaaDoorOwnConv
import Derived.Deep.RegionHeld
namespace Go.Proofs.YtakognfokahaoaaDoor
open Go.RowKit

set_option maxHeartbeats 800000 in
theorem utfPuts_long (n : Int) (pa : Option Addr) (la ca : Nat) (h : 1000 < la) (w : World) (hg : Handle w) (hU : Utf8Laid w) :
    Calls Tryd.prog 7 #[.int .i64 n, .slice pa la ca] w fun e w' => e = .returned (.bool true) ∧ Below w.heap.size w w' := by
  go_enter Tryd.func7, Tryd.ntmps7
  go_wp2_with fail
  refine (speaks01 _ hg hU).mono ?_
  rintro e w1 ⟨rfl, hb1⟩
  go_wp2_with fail
  go_ret
  exact ⟨rfl, hb1⟩

theorem put_size (d : Nat) : (⟨(putL d).toArray⟩ : ByteArray).size = (putL d).length := by show (putL d).toArray.size = _; simp
theorem ref_Put_conv (d : Nat) (hd : d < 1114112) (W : World) : Calls Tryd.prog 26 #[.int .i64 (d : Int)] W fun e w' =>
    ∃ g, e = .returned (.slice (some ⟨g, 0, none⟩) (putL d).length (putL d).length) ∧ Below W.heap.size W w' ∧ (convert 22 9 (.slice (some ⟨g, 0, none⟩) (putL d).length (putL d).length)).run Tryd.prog w' = .ok (.string ⟨(putL d).toArray⟩) w' :=
  (ref_Put d hd W).mono fun e w' ⟨h1, h2, h3, _⟩ => ⟨_, h1, h2, run_back w' _ _ 5 _ _ _ Tryd.underlying22 Tryd.underlying5 Tryd.underlying9 h3⟩
theorem put_at_head (d : Nat) (m : ByteArray) (hd : rightC d) : ∃ S : ByteArray, (⟨(putL d ++ m.data.toList).toArray⟩ : ByteArray) = S ∧ S.size = (putL d).length + m.size ∧ decB S 0 = (d, (putL d).length) ∧ okB S 0 = true := by
  refine ⟨_, rfl, ?_⟩
  have hm : m.data.toList.length = m.size := rfl
  have hs : (⟨(putL d ++ m.data.toList).toArray⟩ : ByteArray).size = (putL d).length + m.size := by
    show (putL d ++ m.data.toList).toArray.size = _
    simp
  refine ⟨hs, put_dec hd (by rw [hs]; omega) ?_⟩
  show ((putL d ++ m.data.toList).toArray.toList.drop 0).take _ = _
  simp

set_option maxHeartbeats 1600000 in
set_option maxRecDepth 100000 in
theorem utfPuts_walk (n : Int) (x : Value) (m : ByteArray) (la ca : Nat) (pa : Option Addr) (e0 : x = .slice pa la ca) (h0 : m.size = la) (hl : la ≤ 1000) (w : World) (hg : Handle w) (hU : Utf8Laid w) (hx : BytesSl w x m) :
    Calls Tryd.prog 7 #[.int .i64 n, x] w fun e w' => e = .returned (.bool true) ∧ Below w.heap.size w w' := by
  subst e0
  subst h0
  go_enter Tryd.func7, Tryd.ntmps7
  go_wp2_with fail
  refine (speaks01 _ hg hU).mono ?_
  rintro e w1 ⟨rfl, hb1⟩
  have hg := hg.below hb1
  have hU := hU.below hb1
  have hx := hx.below hb1
  go_wp2_with fail
  refine (utf_Put n _).mono ?_
  rintro e w2 ⟨hb2, hA⟩
  have hg := hg.below hb2
  have hU := hU.below hb2
  have hx := hx.below hb2
  have hb1 := Bt hb1 hb2
  clear hb2
  rcases hA with ⟨hr, v, rfl, hv⟩ | ⟨hr, v, rfl, hv⟩
  · obtain ⟨pv, cv, rfl⟩ := row_len hv
    obtain ⟨d, rfl, hd, hd2⟩ := right_nat hr
    rw [Int.toNat_natCast] at hv
    rw [Int.toNat_natCast]
    have cR := Lib.hid (fun W => hr ▸ ref_Right (d : Int) W)
    clear hr
    have hl4 := putL_le d
    obtain ⟨S, hS, hS1, hS2, hS3⟩ := put_at_head d m hd
    have HS := Lib.hid hS
    have H1 := Lib.hid hS1
    have hSp : 0 < S.size := by have := putN_len d; rw [← putL_len] at this; omega
    have H2 := Lib.hid hS2
    have H3 := Lib.hid hS3
    clear hS hS1 hS2 hS3
    go_wp2_with fail
    refine (cR.out _).mono ?_
    rintro e w3 ⟨rfl, rfl⟩
    have hbf : Below w2.heap.size w2 (w2.alloc (.cells #[] 5)) := (Below.refl _ _).alloc (Nat.le_refl _) _
    have hown0 := OwnB.lit (base := w2.heap.size) w2 [] #[] 0 rfl rfl (Nat.le_refl _) (by simp)
    have hvs := hv.sl.below hbf
    go_wp2_with (at_builtin; refine wpList_app_bytes rfl _ _ rfl w2.heap.size _ [] rfl hown0 _ ⟨(putL d).toArray⟩ rfl hvs (by rw [put_size]; simp only [List.length_nil]; omega) (by simp) ?_)
    intro v4 w4 hown4 hg4
    have hb34 := hown0.under hbf (Nat.le_refl _) hg4
    clear hg4 hown0 hvs hbf
    have hx := hx.below hb34
    go_wp2_with (at_builtin; refine wpList_app_bytes rfl _ _ rfl w2.heap.size _ _ rfl hown4 _ m rfl hx (by first | omega | (simp; omega)) hb34.size ?_)
    intro v5 w5 hown5 hg5
    have hb35 := hown4.under hb34 (Nat.le_refl _) hg5
    have hg := hg.below hb35
    have hU := hU.below hb35
    have hb1 := Bt hb1 hb35
    have hv := hv.below hb35
    clear hg5 hown4 hb34 hx
    have hz := hown5.sl
    rw [HS.out] at hz
    clear hown5
    have hlp := putN_len d
    rw [← putL_len] at hlp
    have hcv := hv.conv
    rcases hz with ⟨hz0, _⟩ | ⟨b5, off5, cap5, e5, hc5, hm5, hb5, hp5⟩
    · omega
    · subst e5
      unfold maxLen at hm5
      go_wp2_with fail
      refine (utf_Next S 0 b5 off5 cap5 _ hU hSp hc5 hm5 hp5).mono ?_
      rintro e w6 ⟨hb2, hC⟩
      have hv := hv.below hb2
      have hb1 := Bt hb1 hb2
      clear hb2
      rcases hC with ⟨_, rfl⟩ | ⟨h, _⟩
      · rw [H2.out]
        have hS1 : OwnB w6.drew w1.heap.size (.slice pv (putL d).length cv) (putL d) := hv
        have c1 := hS1.conv
        have CP := Lib.hid (ref_Put_conv d (rightC_lt hd))
        clear hcv
        generalize hln : (putL d).length = ln at *
        generalize hpl : putL d = pl at *
        generalize hps : (⟨pl.toArray⟩ : ByteArray) = ps at *
        have HPS := Lib.hid hps
        clear hps hln hpl
        go_upto_region 9 with (fail)
        go_region_held (fun w' => OwnB w' w1.heap.size (.slice pv ln cv) pl) (first | exact hp2 | exact hS1)
          (first
          | (go_at_call 26; refine (CP.out _).mono ?_; rintro e w7 ⟨g, rfl, hb7, hB7⟩; have hp2 := OwnB.below hS1 hb7; have hc2 := hp2.conv; rw [HPS.out] at hc2; have hb17 := Bt (below_drewN hb1 1) hb7; clear hb7; dsimp only))
        all_goals (go_wp2_with fail; go_ret; exact ⟨rfl, hb17⟩)
      · rw [H3.out] at h; cases h
  · have cR := Lib.hid (fun W => hr ▸ ref_Right n W)
    obtain ⟨p, rfl⟩ := hv.ne_nil
    clear hr
    go_wp2_with fail
    refine (cR.out _).mono ?_
    rintro e w3 ⟨rfl, rfl⟩
    go_wp2_with fail
    refine (fault_Kind_is _ _ _ _ _ hg hv).mono ?_
    rintro e w4 ⟨rfl, hb⟩
    have hg := hg.below hb
    have hv := FaultIs.below hv hb
    have hb1 := Bt hb1 hb
    clear hb
    go_wp2_with fail
    refine (fault_At_is _ _ _ _ _ hg hv).mono ?_
    rintro e w4 ⟨rfl, hb⟩
    have hb1 := Bt hb1 hb
    clear hb
    go_wp2_with fail
    go_ret
    exact ⟨by simp, hb1⟩

theorem walkUtfPuts (n : Int) (pa : Option Addr) (la ca : Nat) (za : List Int) (w : World) (hg : Handle w) (hU : Utf8Laid w) (_ : (Lit.int .i64 n).wf = true) (ra : IsRow .u8 w pa la ca za) :
    Calls Tryd.prog 7 #[.int .i64 n, .slice pa la ca] w fun e w' => e = .returned (.bool true) ∧ Below w.heap.size w w' := by
  by_cases hl : la ≤ 1000
  · obtain ⟨m, h0, hx⟩ := ra.bytes
    exact utfPuts_walk n _ m la ca pa rfl h0 hl w hg hU hx
  · exact utfPuts_long n pa la ca (by omega) w hg hU
end Go.Proofs.YtakognfokahaoaaDoor
