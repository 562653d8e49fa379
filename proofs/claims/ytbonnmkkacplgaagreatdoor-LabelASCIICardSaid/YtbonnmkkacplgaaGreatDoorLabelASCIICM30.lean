/- The walk of LabelASCII. -/
import Derived.Test.YtbonnmkkacplgaaGreatDoorLabelASCIICM21
import Derived.Test.YtbonnmkkacplgaaGreatDoorLabelASCIICM29

namespace Go.Proofs.YtbonnmkkacplgaaGreatDoor
open Go.RowKit

theorem right_size {t : ByteArray} (h : (rightL t).1 = 0) : t.size ≤ 63 := by
  apply Nat.le_of_not_lt
  intro h2
  rw [rightL_long (by omega) h2] at h
  cases h
/-- ASCII of what ASCII gave. -/
theorem ascii_again {t : ByteArray} (h : (rightL t).1 = 0) (W : World) (hS : SpanLaid W) (hU : Utf8Laid W) : Calls Tryz.prog 10 #[.string t] W fun e w' => e = .returned (.tuple #[.string t, .nilIface]) ∧ Below W.heap.size W w' :=
  (label_ASCII t W hS hU (by have := right_size h; omega)).mono fun e w' ⟨hb, hq⟩ => by
    rcases hq with ⟨k, i, v, h1, _⟩ | ⟨t', h1, he⟩
    · rw [ascii_fix h] at h1; cases h1
    · rw [ascii_fix h] at h1
      rw [Except.ok.inj h1]
      exact ⟨he, hb⟩
theorem right_nil {t : ByteArray} (h : (rightL t).1 = 0) (W : World) (hS : SpanLaid W) : Calls Tryz.prog 13 #[.string t] W fun e w' => e = .returned .nilIface ∧ Below W.heap.size W w' :=
  (label_Right t W hS (by have := right_size h; omega)).mono fun e w' ⟨hb, v, he, hv⟩ => by
    rcases hv with ⟨_, rfl⟩ | ⟨h0, _⟩
    · exact ⟨he, hb⟩
    · exact absurd h h0
set_option maxHeartbeats 3200000 in
set_option maxRecDepth 100000 in
theorem walkLabelASCII (s : ByteArray) (w : World) (hH : Handle w) (hU : Utf8Laid w) (hS : SpanLaid w) (hz : s.size ≤ maxLen) :
    Calls Tryz.prog 3 #[.string s] w fun e w' => e = .returned (.bool true) ∧ Below w.heap.size w w' := by
  unfold maxLen at hz
  have c1 := Lib.hid (fun W h1 h2 h3 => speaks10 W h1 h2 h3)
  by_cases h400 : 400 < s.size
  · have hI : (s.size : Int) > 400 := by omega
    go_enter Tryz.func3, Tryz.ntmps3
    go_wp2_with fail
    refine (c1.out _ hH hS hU).mono ?_
    rintro e w1 ⟨rfl, hb1⟩
    go_wp2_with fail
    go_ret
    exact ⟨rfl, hb1⟩
  have hI : ¬ (s.size : Int) > 400 := by omega
  have c2 := Lib.hid (fun W h1 h2 => label_ASCII s W h1 h2 (by omega))
  have c3 := Lib.hid (fun W => ref10_ASCII s W (by omega))
  have HAR := Lib.hid (fun t h => ascii_right (s := s) (t := t) h)
  have c5 := Lib.hid (fun (t : ByteArray) h W h1 h2 => ascii_again (t := t) h W h1 h2)
  have c6 := Lib.hid (fun (t : ByteArray) h W h1 => right_nil (t := t) h W h1)
  clear h400
  go_enter Tryz.func3, Tryz.ntmps3
  go_wp2_with fail
  refine (c1.out _ hH hS hU).mono ?_
  rintro e w1 ⟨rfl, hb1⟩
  have hS := hS.below hb1
  have hU := hU.below hb1
  have hH := hH.below hb1
  go_wp2_with fail
  refine (c2.out _ hS hU).mono ?_
  rintro e w2 ⟨hb2, h2⟩
  have hS := hS.below hb2
  have hU := hU.below hb2
  have hH := hH.below hb2
  have hb := Bt hb1 hb2
  clear hb1 hb2
  rcases h2 with ⟨k, i, v, hA, hk, rfl, hv⟩ | ⟨t, hA, rfl⟩
  · obtain ⟨p, rfl⟩ := hv.ne_nil
    have HV := Lib.hid (IsE.err (.inr ⟨hk, hv⟩))
    have HA := Lib.hid hA
    have e1 : ((⟨#[]⟩ : ByteArray).toList == (⟨#[]⟩ : ByteArray).toList) = true := beq_self_eq_true _
    clear hA hv
    go_wp2_with fail
    refine (c3.out _).mono ?_
    rintro e w3 ⟨hb3, h3⟩
    have hH := hH.below hb3
    have hb := Bt hb hb3
    rcases h3 with ⟨k', i', hA', rfl⟩ | ⟨t, hA', _⟩
    · rw [HA.out] at hA'
      obtain ⟨rfl, rfl⟩ : k = k' ∧ i = i' := by cases hA'; exact ⟨rfl, rfl⟩
      have cT := Lib.hid (told10 _ k i w3 hH (IsErr.below HV.out hb3))
      clear hA' hb3
      go_wp2_with fail
      refine cT.out.mono ?_
      rintro e w4 ⟨rfl, hb4⟩
      have hb := Bt hb hb4
      go_wp2_with fail
      go_ret
      exact ⟨rfl, hb⟩
    · rw [HA.out] at hA'; cases hA'
  · have HA := Lib.hid hA
    have hr := HAR.out t hA
    have C5 := Lib.hid (c5.out t hr)
    have C6 := Lib.hid (c6.out t hr)
    have e1 : (t.toList == t.toList) = true := beq_self_eq_true _
    clear hA hr c5 c6
    go_wp2_with fail
    refine (c3.out _).mono ?_
    rintro e w3 ⟨hb3, h3⟩
    have hS := hS.below hb3
    have hU := hU.below hb3
    have hH := hH.below hb3
    have hb := Bt hb hb3
    clear hb3
    rcases h3 with ⟨k', i', hA', _⟩ | ⟨t', hA', rfl⟩
    · rw [HA.out] at hA'; cases hA'
    · rw [HA.out] at hA'
      obtain rfl : t = t' := Except.ok.inj hA'
      have cT := Lib.hid (told10 .nilIface 0 0 w3 hH (.inl ⟨rfl, rfl⟩))
      clear hA'
      go_wp2_with fail
      refine cT.out.mono ?_
      rintro e w4 ⟨rfl, hb4⟩
      have hS := hS.below hb4
      have hU := hU.below hb4
      have hb := Bt hb hb4
      clear hb4
      go_wp2_with fail
      refine (C5.out _ hS hU).mono ?_
      rintro e w5 ⟨rfl, hb5⟩
      have hS := hS.below hb5
      have hb := Bt hb hb5
      clear hb5
      go_wp2_with fail
      refine (C6.out _ hS).mono ?_
      rintro e w6 ⟨rfl, hb6⟩
      have hb := Bt hb hb6
      go_wp2_with fail
      go_ret
      exact ⟨rfl, hb⟩
end Go.Proofs.YtbonnmkkacplgaaGreatDoor
