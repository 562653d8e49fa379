/- label.Shown; the reference's; what is shown is told back. -/
import Derived.Test.YtbonnmkkacplgaaGreatDoorLabelRightCM21
import Derived.Test.YtbonnmkkacplgaaGreatDoorLabelRightCM27
import Derived.Test.YtbonnmkkacplgaaGreatDoorLabelRightCM6
import Derived.Test.YtbonnmkkacplgaaGreatDoorLabelRightCM16
import Derived.Test.YtbonnmkkacplgaaGreatDoorLabelRightCM19

namespace Go.Proofs.YtbonnmkkacplgaaGreatDoor
open Go.RowKit

/-- How a label is shown. -/
def shownL (s : ByteArray) : ByteArray := match labD s with | some l => ⟨(putAll l).toArray⟩ | none => s
theorem shownL_some {s : ByteArray} {l : List Nat} (h : labD s = some l) : shownL s = ⟨(putAll l).toArray⟩ := by unfold shownL; rw [h]
theorem shownL_none {s : ByteArray} (h : labD s = none) : shownL s = s := by unfold shownL; rw [h]
theorem coded_of_lab {s : ByteArray} {l : List Nat} (h : labD s = some l) : codedB s = true := by
  obtain ⟨h1, _⟩ := labD_inv h
  have hp : xnL <+: s.data.toList := List.isPrefixOf_iff_prefix.1 h1
  obtain ⟨r, hr⟩ := hp
  have hl : s.data.toList.length = s.size := rfl
  rw [← hr] at hl
  simp [xnL] at hl
  have h2 : byteAt s 2 = 45 := by unfold byteAt; rw [← hr]; rfl
  have h3 : byteAt s 3 = 45 := by unfold byteAt; rw [← hr]; rfl
  exact decide_eq_true ⟨by omega, h2, h3⟩
theorem right_inv {s : ByteArray} (h : (rightL s).1 = 0) : s.size ≤ 63 ∧ s.size ≠ 0 ∧ badAt s s.size 0 = none ∧ fineB s = true := by
  by_cases h0 : s.size = 0
  · rw [rightL_empty h0] at h; cases h
  · by_cases h1 : 63 < s.size
    · rw [rightL_long h0 h1] at h; cases h
    · cases hb : badAt s s.size 0 with
      | some i => rw [rightL_bad h0 h1 hb] at h; cases h
      | none =>
        rw [rightL_fine h0 h1 hb] at h
        cases hf : fineB s with
        | true => exact ⟨by omega, h0, rfl, rfl⟩
        | false => rw [hf] at h; cases h
theorem may_small {c : Nat} (h : mayB c = true) : smallN c = c := by
  unfold smallN
  rw [if_neg]
  intro hh
  unfold mayB at h
  have e1 : smallZ (c : Int) = false := decide_eq_false (by omega)
  have e2 : charZ (c : Int) = false := char_out (by unfold inSpan; omega)
  rw [e1, e2] at h
  cases h
theorem badC_none : ∀ (l : List Nat) (k : Nat), (∀ c ∈ l, mayB c = true) → badC l k = none := by
  intro l
  induction l with
  | nil => intro k _; rfl
  | cons c l ih => intro k h; rw [badC_next (h c (by simp))]; exact ih _ fun x hx => h x (by simp [hx])
theorem putAll_le4 (l : List Nat) : (putAll l).length ≤ 4 * l.length := by
  induction l with
  | nil => exact Nat.zero_le _
  | cons c l ih => rw [putAll_cons, List.length_append, List.length_cons]; have := putL_le c; omega
theorem shown_size {s : ByteArray} (h : (rightL s).1 = 0) : (shownL s).size ≤ 1024 := by
  obtain ⟨h1, _⟩ := right_inv h
  cases hl : labD s with
  | none => rw [shownL_none hl]; omega
  | some l =>
    rw [shownL_some hl]
    obtain ⟨_, h2, _⟩ := labD_inv hl
    have h3 := (decE_facts h2).2
    have h4 := putAll_le4 l
    show (putAll l).toArray.size ≤ 1024
    simp
    omega
/-- What is shown is told back. -/
theorem shown_back {s : ByteArray} (h : (rightL s).1 = 0) : asciiL (shownL s) = .ok s := by
  obtain ⟨h1, h2, h3, h4⟩ := right_inv h
  cases hl : labD s with
  | none => rw [shownL_none hl]; exact ascii_fix h
  | some l =>
    rw [shownL_some hl]
    obtain ⟨p1, p2, p3, p4, p5, p6⟩ := labD_inv hl
    obtain ⟨f1, f2⟩ := decE_facts p2
    have hmay := List.all_eq_true.1 p3
    have hc := chrs_put l fun c hc => (rightC_iff c).2 (f1 c hc)
    have hlow : lowerS ⟨(putAll l).toArray⟩ = ⟨(putAll l).toArray⟩ := by
      have e : lowerS ⟨(putAll l).toArray⟩ = ⟨((putAll l).map lowerB).toArray⟩ := rfl
      have e2 : l.map smallN = l := by
        have := List.map_congr_left (l := l) (f := smallN) (g := id) fun c hc => may_small (hmay c hc)
        rw [this, List.map_id]
      rw [e, lower_all l fun c hc => (rightC_iff c).2 (f1 c hc), e2]
    rw [asciiL_wide (by rw [hc]) (by rw [hc]; exact p4), hlow, lowC_ok (by rw [hc]), hc]
    have hp : xnL <+: s.data.toList := List.isPrefixOf_iff_prefix.1 p1
    obtain ⟨r, hr⟩ := hp
    have hbr : (bodyS s).data.toList = r := by
      show s.data.toList.drop 4 = r
      rw [← hr]
      rfl
    have hsz : s.data.toList.length = s.size := rfl
    have hrl : r.length + 4 = s.size := by
      rw [← hr, List.length_append] at hsz
      have : xnL.length = 4 := rfl
      omega
    rw [asciiW_ok (badC_none l 0 hmay) p6 (by rw [p5, hbr]; omega)]
    congr 1
    apply ba_ext
    show xnL ++ encN l = s.data.toList
    rw [p5, hbr, hr]
theorem rightLen_nats {l : List Nat} (h : ∀ c ∈ l, rightB (c : Int) = true) : rightLen (intsN l) = (intsN l).length := intsN_right l h
def ShownPost (s : ByteArray) (w : World) (e : Ending) (w' : World) : Prop := Below w.heap.size w w' ∧
  (((rightL s).1 ≠ 0 ∧ ∃ v, e = .returned (.tuple #[.string ⟨#[]⟩, v]) ∧ IsFault w' v (rightL s).1 (rightL s).2) ∨ ((rightL s).1 = 0 ∧ e = .returned (.tuple #[.string (shownL s), .nilIface])))
set_option maxHeartbeats 3200000 in
set_option maxRecDepth 100000 in
theorem label_Shown (s : ByteArray) (w : World) (hS : SpanLaid w) (hs : s.size ≤ 1000000) : Calls Tryz.prog 21 #[.string s] w (ShownPost s w) := by
  have c1 := Lib.hid (fun W h => label_Right s W h hs)
  have c2 := Lib.hid (fun W => label_coded s W hs)
  have c3 := Lib.hid (fun W h => label_decode s W h hs)
  go_enter Tryz.func21, Tryz.ntmps21
  go_wp2_with fail
  refine (c1.out _ hS).mono ?_
  rintro e w1 ⟨hb1, v, rfl, hv⟩
  have hS := hS.below hb1
  rcases hv with ⟨h0, rfl⟩ | ⟨h0, hv⟩
  · obtain ⟨_, _, _, hf⟩ := right_inv h0
    have hfb : fineB s = (decide (byteAt s 0 ≠ 45) && decide (byteAt s (s.size - 1) ≠ 45) && (!codedB s || (labD s).isSome)) := rfl
    rw [hf] at hfb
    have H0 := Lib.hid h0
    clear h0 hf
    cases hc : codedB s with
    | false =>
      rw [hc] at c2
      have hn : labD s = none := by
        cases hl : labD s with
        | none => rfl
        | some l => rw [coded_of_lab hl] at hc; cases hc
      have HX := Lib.hid (shownL_none hn)
      clear hfb hc hn
      go_wp2_with fail
      refine (c2.out _).mono ?_
      rintro e w2 ⟨rfl, hw2⟩
      obtain rfl := hw2
      go_wp2_with fail
      go_ret2
      exact ⟨hb1, .inr ⟨H0.out, by rw [HX.out]; rfl⟩⟩
    | true =>
      rw [hc] at c2
      have hn : (labD s).isSome = true := by
        rw [hc] at hfb
        cases hl : (labD s).isSome with
        | true => rfl
        | false => rw [hl] at hfb; simp at hfb
      have HN := Lib.hid hn
      clear hfb hc hn
      go_wp2_with fail
      refine (c2.out _).mono ?_
      rintro e w2 ⟨rfl, hw2⟩
      obtain rfl := hw2
      go_wp2_with fail
      refine (c3.out _ hS).mono ?_
      rintro e w3 ⟨hb3, h3⟩
      have hb := Bt hb1 hb3
      rcases h3 with ⟨hl, _⟩ | ⟨l, v, hl, rfl, hown⟩
      · have := HN.out
        rw [hl] at this
        cases this
      · have HX := Lib.hid (shownL_some hl)
        obtain ⟨_, h2, _⟩ := labD_inv hl
        obtain ⟨f1, f2⟩ := decE_facts h2
        have c4 := Lib.hid (utf_Text v (intsN l) w3 (by rw [intsN_len]; omega) hown.sl)
        have hR := Lib.hid (rightLen_nats f1)
        have hN := Lib.hid (nats_intsN l)
        clear hl h2 f1 f2 hown hb3
        go_wp2_with fail
        refine c4.out.mono ?_
        rintro e w4 ⟨hb4, h4⟩
        have hb := Bt hb hb4
        rcases h4 with ⟨_, v4, rfl, hv4⟩ | ⟨hlt, _⟩
        · have hcv := hv4.conv
          rw [hN.out, ← HX.out] at hcv
          clear hb4 hv4
          go_wp2_with fail
          go_ret2
          exact ⟨hb, .inr ⟨H0.out, rfl⟩⟩
        · have := hR.out
          omega
  · obtain ⟨p, rfl⟩ := hv.ne_nil
    have HV := Lib.hid hv
    have H0 := Lib.hid h0
    clear hv h0
    go_wp2_with fail
    go_ret2
    exact ⟨hb1, .inl ⟨H0.out, _, rfl, HV.out⟩⟩
set_option maxHeartbeats 3200000 in
set_option maxRecDepth 100000 in
theorem ref10_Shown (s : ByteArray) (w : World) (hs : s.size ≤ 2000) : Calls Tryz.prog 22 #[.string s] w fun e w' => e = .returned (.string (shownL s)) ∧ Below w.heap.size w w' := by
  have c3 := Lib.hid (fun W => ref10_Coded s W hs)
  go_enter Tryz.func22, Tryz.ntmps22
  go_wp2_with fail
  refine (c3.out _).mono ?_
  rintro e w3 ⟨hb, h3⟩
  rcases h3 with ⟨hl, v, rfl⟩ | ⟨l, v, hl, rfl, hown⟩
  · have HX := Lib.hid (shownL_none hl)
    clear hl
    go_wp2_with fail
    go_ret
    exact ⟨by rw [HX.out]; rfl, hb⟩
  · have HX := Lib.hid (shownL_some hl)
    obtain ⟨_, h2, _⟩ := labD_inv hl
    obtain ⟨f1, f2⟩ := decE_facts h2
    have c4 := Lib.hid (ref_Text v (intsN l) w3 (by rw [intsN_len]; omega) hown.sl)
    have hR := Lib.hid (rightLen_nats f1)
    have hN := Lib.hid (nats_intsN l)
    clear hl h2 f1 f2 hown
    go_wp2_with fail
    refine c4.out.mono ?_
    rintro e w4 ⟨hb4, h4⟩
    have hb := Bt hb hb4
    rcases h4 with ⟨_, v4, rfl, hv4⟩ | ⟨hlt, _⟩
    · have hcv := hv4.conv
      rw [hN.out, ← HX.out] at hcv
      clear hb4 hv4
      go_wp2_with fail
      go_ret
      exact ⟨rfl, hb⟩
    · have := hR.out
      omega
end Go.Proofs.YtbonnmkkacplgaaGreatDoor

/- Chapter 9's told: is an error this one, at this place? -/
namespace Go.Proofs.YtbonnmkkacplgaaGreatDoor
open Go.RowKit

theorem told10 (v : Value) (k i : Nat) (w : World) (hg : Handle w) (hv : IsErr w v k i) : Calls Tryz.prog 12 #[v, .int .i64 (k : Int), .int .i64 (i : Int)] w fun e w' => e = .returned (.bool true) ∧ Below w.heap.size w w' := by
  have cK := Lib.hid (fault_Kind v k i w hg hv)
  have ek : ((k : Int) == (k : Int)) = true := beq_self_eq_true _
  have ei : ((i : Int) == (i : Int)) = true := beq_self_eq_true _
  rcases hv with ⟨rfl, rfl⟩ | ⟨hk, n, hv⟩
  · go_enter Tryz.func12, Tryz.ntmps12
    go_wp2_with fail
    refine cK.out.mono ?_
    rintro e w1 ⟨rfl, hb1⟩
    go_wp2_with fail
    go_ret
    exact ⟨rfl, hb1⟩
  · have cA := Lib.hid (fun W hg hb => fault_At v k i W hg (.inr ⟨hk, n, FaultIs.below (w := w) hv hb⟩) hk)
    obtain ⟨p, rfl⟩ := hv.ne_nil
    clear hv hk
    go_enter Tryz.func12, Tryz.ntmps12
    go_wp2_with fail
    refine cK.out.mono ?_
    rintro e w1 ⟨rfl, hb1⟩
    have hg1 := hg.below hb1
    go_wp2_with fail
    refine (cA.out _ hg1 hb1).mono ?_
    rintro e w2 ⟨rfl, hb2⟩
    have hb12 := Bt hb1 hb2
    go_wp2_with fail
    go_ret
    exact ⟨rfl, hb12⟩
end Go.Proofs.YtbonnmkkacplgaaGreatDoor

/- The walk of LabelRight. -/
namespace Go.Proofs.YtbonnmkkacplgaaGreatDoor
open Go.RowKit

theorem shown_ascii {s : ByteArray} (h : (rightL s).1 = 0) (W : World) (hS : SpanLaid W) (hU : Utf8Laid W) : Calls Tryz.prog 10 #[.string (shownL s)] W fun e w' => e = .returned (.tuple #[.string s, .nilIface]) ∧ Below W.heap.size W w' :=
  (label_ASCII (shownL s) W hS hU (by have := shown_size h; omega)).mono fun e w' ⟨hb, hq⟩ => by
    rcases hq with ⟨k, i, v, h1, _⟩ | ⟨t', h1, he⟩
    · rw [shown_back h] at h1; cases h1
    · rw [shown_back h] at h1
      rw [Except.ok.inj h1]
      exact ⟨he, hb⟩
set_option maxHeartbeats 3200000 in
set_option maxRecDepth 100000 in
theorem walkLabelRight (s : ByteArray) (w : World) (hH : Handle w) (hU : Utf8Laid w) (hS : SpanLaid w) (hz : s.size ≤ maxLen) :
    Calls Tryz.prog 6 #[.string s] w fun e w' => e = .returned (.bool true) ∧ Below w.heap.size w w' := by
  unfold maxLen at hz
  have c1 := Lib.hid (fun W h1 h2 h3 => speaks10 W h1 h2 h3)
  by_cases h300 : 300 < s.size
  · have hI : (s.size : Int) > 300 := by omega
    go_enter Tryz.func6, Tryz.ntmps6
    go_wp2_with fail
    refine (c1.out _ hH hS hU).mono ?_
    rintro e w1 ⟨rfl, hb1⟩
    go_wp2_with fail
    go_ret
    exact ⟨rfl, hb1⟩
  have hI : ¬ (s.size : Int) > 300 := by omega
  have c2 := Lib.hid (fun W => ref10_Right s W (by omega))
  have c3 := Lib.hid (fun W h => label_Shown s W h (by omega))
  have c4 := Lib.hid (fun W h => label_Right s W h (by omega))
  have c5 := Lib.hid (fun W => ref10_Shown s W (by omega))
  have c6 := Lib.hid (fun h W h1 h2 => shown_ascii (s := s) h W h1 h2)
  clear h300
  go_enter Tryz.func6, Tryz.ntmps6
  go_wp2_with fail
  refine (c1.out _ hH hS hU).mono ?_
  rintro e w1 ⟨rfl, hb1⟩
  have hS := hS.below hb1
  have hU := hU.below hb1
  have hH := hH.below hb1
  go_wp2_with fail
  refine (c2.out _).mono ?_
  rintro e w2 ⟨hb2, he2⟩
  have hS := hS.below hb2
  have hU := hU.below hb2
  have hH := hH.below hb2
  have hb := Bt hb1 hb2
  have c7' : ∀ W : World, SpanLaid W → Calls Tryz.prog 21 #[.string s] W fun e w' => Below W.heap.size W w' ∧
    (((rightL s).1 ≠ 0 ∧ ∃ v, e = .returned (.tuple #[.string ⟨#[]⟩, v]) ∧ IsFault w' v (rightL s).1 (rightL s).2) ∨ ((rightL s).1 = 0 ∧ e = .returned (.tuple #[.string (shownL s), .nilIface]))) := fun W h => c3.out W h
  have c8' : ∀ W : World, SpanLaid W → Calls Tryz.prog 13 #[.string s] W fun e w' => Below W.heap.size W w' ∧ ∃ v, e = .returned v ∧ IsE w' v (rightL s).1 (rightL s).2 := fun W h => c4.out W h
  have c7 := Lib.hid c7'
  have c8 := Lib.hid c8'
  clear c7' c8'
  clear hb1 hb2 c2 c3 c4
  generalize (rightL s).1 = k at *
  generalize (rightL s).2 = i at *
  subst he2
  go_wp2_with fail
  refine (c7.out _ hS).mono ?_
  rintro e w3 ⟨hb3, h3⟩
  have hS := hS.below hb3
  have hU := hU.below hb3
  have hH := hH.below hb3
  have hb := Bt hb hb3
  clear hb3
  rcases h3 with ⟨hk, v3, rfl, hv3⟩ | ⟨hk, rfl⟩
  · obtain ⟨p, rfl⟩ := hv3.ne_nil
    have HV3 := Lib.hid (IsE.err (.inr ⟨hk, hv3⟩))
    have hk1 : ((k : Int) != 0) = true := by rw [bne_iff_ne]; omega
    clear hv3
    go_wp2_with fail
    refine (c8.out _ hS).mono ?_
    rintro e w4 ⟨hb4, v4, rfl, hv4⟩
    have hH := hH.below hb4
    have HV3 := Lib.hid (IsErr.below HV3.out hb4)
    have hb := Bt hb hb4
    rcases hv4 with ⟨h0, _⟩ | ⟨_, hv4⟩
    · exact absurd h0 hk
    obtain ⟨p4, rfl⟩ := hv4.ne_nil
    have cT := Lib.hid (told10 _ k i w4 hH (IsE.err (.inr ⟨hk, hv4⟩)))
    clear hb4 hv4 hk
    go_wp2_with fail
    refine cT.out.mono ?_
    rintro e w5 ⟨rfl, hb5⟩
    have hH := hH.below hb5
    have hb := Bt hb hb5
    have cT2 := Lib.hid (told10 _ k i w5 hH (IsErr.below HV3.out hb5))
    clear hb5
    go_wp2_with fail
    refine cT2.out.mono ?_
    rintro e w6 ⟨rfl, hb6⟩
    have hb := Bt hb hb6
    go_wp2_with fail
    go_ret
    exact ⟨rfl, hb⟩
  · subst hk
    have C6 := Lib.hid (c6.out rfl)
    have hs0 : ((shownL s).toList == (shownL s).toList) = true := beq_self_eq_true _
    have hs1 : (s.toList == s.toList) = true := beq_self_eq_true _
    clear c6
    generalize shownL s = sh at *
    go_wp2_with fail
    refine (c8.out _ hS).mono ?_
    rintro e w4 ⟨hb4, v4, rfl, hv4⟩
    have hS := hS.below hb4
    have hU := hU.below hb4
    have hH := hH.below hb4
    have hb := Bt hb hb4
    rcases hv4 with ⟨_, rfl⟩ | ⟨h0, _⟩
    · have cT := Lib.hid (told10 .nilIface 0 i w4 hH (.inl ⟨rfl, rfl⟩))
      clear hb4
      go_wp2_with fail
      refine cT.out.mono ?_
      rintro e w5 ⟨rfl, hb5⟩
      have hS := hS.below hb5
      have hU := hU.below hb5
      have hH := hH.below hb5
      have hb := Bt hb hb5
      have cT2 := Lib.hid (told10 .nilIface 0 i w5 hH (.inl ⟨rfl, rfl⟩))
      clear hb5
      go_wp2_with fail
      refine cT2.out.mono ?_
      rintro e w6 ⟨rfl, hb6⟩
      have hS := hS.below hb6
      have hU := hU.below hb6
      have hb := Bt hb hb6
      clear hb6
      go_wp2_with fail
      refine (C6.out _ hS hU).mono ?_
      rintro e w7 ⟨rfl, hb7⟩
      have hb := Bt hb hb7
      clear hb7
      go_wp2_with fail
      refine (c5.out _).mono ?_
      rintro e w8 ⟨rfl, hb8⟩
      have hb := Bt hb hb8
      go_wp2_with fail
      go_ret
      exact ⟨rfl, hb⟩
    · exact absurd rfl h0
end Go.Proofs.YtbonnmkkacplgaaGreatDoor
