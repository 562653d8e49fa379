/- The walk of LabelNames. -/
import Derived.Test.YtbonnmkkacplgaaGreatDoorLabelNamesM21
import Derived.Test.YtbonnmkkacplgaaGreatDoorLabelNamesM32

namespace Go.Proofs.YtbonnmkkacplgaaGreatDoor
open Go.RowKit

theorem name_ret {s t : ByteArray} (hs : s.size ≤ 2000) (h : ∀ r, NameIs s r → r = .ok t) (w : World) (hH : Handle w) (hS : SpanLaid w) (hU : Utf8Laid w) : Calls Tryz.prog 14 #[.string s] w fun e w' => e = .returned (.tuple #[.string t, .nilIface]) ∧ Below w.heap.size w w' :=
  (label_Name s w hH hS hU hs).mono fun e w' ⟨hb, hq⟩ => by
    rcases hq with ⟨k, i, v, hN, _⟩ | ⟨t', hN, he⟩
    · have := h _ hN; cases this
    · obtain rfl := Except.ok.inj (h _ hN)
      exact ⟨he, hb⟩
theorem dot_one {s : ByteArray} {c : UInt8} {i j n : Nat} (hi : byteAt s i = c) (hj : byteAt s j = c) (h1 : (cutAt s c (i + 1)).1.length = n) (h2 : (cutAt s c (j + 1)).1.length = n) : i = j := by
  have step : ∀ k, byteAt s k = c → (cutAt s c (k + 1)).1.length = (cutAt s c k).1.length + 1 := fun k hk => by rw [cutAt, if_pos hk]; simp
  have a := step i hi
  have b := step j hj
  rcases Nat.lt_trichotomy i j with h | h | h
  · have := cutAt_mono s c (show i + 1 ≤ j from h); omega
  · exact h
  · have := cutAt_mono s c (show j + 1 ≤ i from h); omega
theorem nameis_one {s : ByteArray} {r r2 : Except (Nat × Nat) ByteArray} (h : NameIs s r) (h2 : NameIs s r2) : r = r2 := by
  rcases h with a | ⟨i, a, b, c, d⟩ | ⟨e, a, b, c⟩ | ⟨xs, a, b, c, d⟩ | ⟨xs, a, b, c, d⟩ <;> rcases h2 with a' | ⟨i', a', b', c', d'⟩ | ⟨e', a', b', c'⟩ | ⟨xs', a', b', c', d'⟩ | ⟨xs', a', b', c', d'⟩
  all_goals first
    | rfl
    | exact absurd a a'
    | exact absurd a' a
    | (obtain rfl := dot_one c c' d d'; rfl)
    | (exfalso; have := cutAt_mono (cutP s) 46 (show i + 1 ≤ (cutP s).size from b); omega)
    | (exfalso; have := cutAt_mono (cutP s) 46 (show i' + 1 ≤ (cutP s).size from b'); omega)
    | (rw [c] at c'; cases c' <;> first | rfl | (exfalso; omega))
set_option maxHeartbeats 3200000 in
set_option maxRecDepth 100000 in
theorem walkLabelNames (s : ByteArray) (w : World) (hH : Handle w) (hU : Utf8Laid w) (hS : SpanLaid w) (hz : s.size ≤ maxLen) :
    Calls Tryz.prog 4 #[.string s] w fun e w' => e = .returned (.bool true) ∧ Below w.heap.size w w' := by
  unfold maxLen at hz
  have c1 := Lib.hid (fun W h1 h2 h3 => speaks10 W h1 h2 h3)
  by_cases h1000 : 1000 < s.size
  · have hI : (s.size : Int) > 1000 := by omega
    go_enter Tryz.func4, Tryz.ntmps4
    go_wp2_with fail
    refine (c1.out _ hH hS hU).mono ?_
    rintro e w1 ⟨rfl, hb1⟩
    go_wp2_with fail
    go_ret
    exact ⟨rfl, hb1⟩
  have hI : ¬ (s.size : Int) > 1000 := by omega
  have c2 := Lib.hid (fun W h0 h1 h2 => label_Name s W h0 h1 h2 (by omega))
  have c3 := Lib.hid (fun W => ref10_Name s W (by omega))
  have HH := Lib.hid hH
  have HS := Lib.hid hS
  have HU := Lib.hid hU
  clear h1000
  go_enter Tryz.func4, Tryz.ntmps4
  go_wp2_with fail
  refine (c1.out _ hH hS hU).mono ?_
  rintro e w1 ⟨rfl, hb1⟩
  have hS := hS.below hb1
  have hU := hU.below hb1
  have hH := hH.below hb1
  go_wp2_with fail
  refine (c2.out _ hH hS hU).mono ?_
  rintro e w2 ⟨hb2, h2⟩
  have hS := hS.below hb2
  have hU := hU.below hb2
  have hH := hH.below hb2
  have hb := Bt hb1 hb2
  clear hb1 hb2
  rcases h2 with ⟨k, i, v, hA, hk, rfl, hv⟩ | ⟨t, hA, rfl⟩
  · obtain ⟨p, rfl⟩ := hv.ne_nil
    have HV := Lib.hid (IsE.err (.inr ⟨hk, hv⟩))
    have HA := Lib.hid hA
    have e1 : ((⟨#[]⟩ : ByteArray).toList == (⟨#[]⟩ : ByteArray).toList) = true := beq_self_eq_true _
    clear hA hv
    go_wp2_with fail
    refine (c3.out _).mono ?_
    rintro e w3 ⟨hb3, h3⟩
    have hH := hH.below hb3
    have hb := Bt hb hb3
    rcases h3 with ⟨k', i', hA', rfl⟩ | ⟨t, hA', _⟩
    · have hA' := nameis_one HA.out hA'
      obtain ⟨rfl, rfl⟩ : k = k' ∧ i = i' := by cases hA'; exact ⟨rfl, rfl⟩
      have cT := Lib.hid (told10 _ k i w3 hH (IsErr.below HV.out hb3))
      clear hA' hb3
      go_wp2_with fail
      refine cT.out.mono ?_
      rintro e w4 ⟨rfl, hb4⟩
      have hb := Bt hb hb4
      go_wp2_with fail
      go_ret
      exact ⟨rfl, hb⟩
    · have hA' := nameis_one HA.out hA'; cases hA'
  · obtain ⟨xs, hg, hz⟩ := name_good hA
    have HA := Lib.hid hA
    have hz1 : (t ++ (⟨#[46]⟩ : ByteArray)).size ≤ 2000 := by rw [ByteArray.size_append]; show t.size + 1 ≤ 2000; omega
    have hgz := greatS_size t
    have C4 := Lib.hid (fun W h0 h1 h2 => name_ret (s := t) (t := t) (by omega) (fun r => name_fix hg hz) W h0 h1 h2)
    have C5 := Lib.hid (fun W h0 h1 h2 => name_ret (s := t ++ ⟨#[46]⟩) (t := t) hz1 (fun r => name_dot hg hz) W h0 h1 h2)
    have C6 := Lib.hid (fun W h0 h1 h2 => name_ret (s := greatS t) (t := t) (by omega) (fun r => name_great hg hz) W h0 h1 h2)
    have e1 : (t.toList == t.toList) = true := beq_self_eq_true _
    clear hA hg hgz hz1
    go_wp2_with fail
    refine (c3.out _).mono ?_
    rintro e w3 ⟨hb3, h3⟩
    have hS := hS.below hb3
    have hU := hU.below hb3
    have hH := hH.below hb3
    have hb := Bt hb hb3
    clear hb3
    rcases h3 with ⟨k', i', hA', _⟩ | ⟨t', hA', rfl⟩
    · have hA' := nameis_one HA.out hA'; cases hA'
    · obtain rfl : t = t' := Except.ok.inj (nameis_one HA.out hA')
      have cT := Lib.hid (told10 .nilIface 0 0 w3 hH (.inl ⟨rfl, rfl⟩))
      clear hA' HA
      go_wp2_with fail
      refine cT.out.mono ?_
      rintro e w4 ⟨rfl, hb4⟩
      have hS := hS.below hb4
      have hU := hU.below hb4
      have hH := hH.below hb4
      have hb := Bt hb hb4
      clear hb4
      go_wp2_with ((with_reducible refine wpList_bytes (o := ⟨some 46, _, _, _, _, _⟩) rfl 9 32 5 _ rfl t rfl Tryz.underlying9 Tryz.underlying32 Tryz.underlying5 ?_); intro cap w5 hcap hB hb5 hsz5)
      have hS := hS.below hb5
      have hU := hU.below hb5
      have hH := hH.below hb5
      have hlt2 : w4.heap.size < w5.heap.size := by omega
      have hsz := hb.size
      have HB5 := Lib.hid (Bt hb hb5)
      generalize hgg : w4.heap.size = g at *
      have hg0 : w.heap.size ≤ g := by omega
      clear hb5 hsz5 hgg hsz hb hH hS hU
      go_loopw [49] (fun a wr => ∃ i : Nat, i ≤ t.size ∧ a = .int .i64 i ∧ BytesAt wr g (greatTo t i) ∧ Below w.heap.size w wr) (fun a _ => t.size - (intOf a).toNat)
      case atStart => exact ⟨0, Nat.zero_le _, rfl, by rw [greatTo_zero]; exact hB, HB5.out⟩
      case round =>
        obtain ⟨i, hil, rfl, hBr, hbr⟩ := hrel
        by_cases hlt : i < t.size
        · have hc := hBr.cell (k := i) (by rw [greatTo_len]; exact hlt)
          have hfz := hBr.frozen (k := i) (by rw [greatTo_len]; exact hlt)
          rw [greatTo_at hlt] at hc
          have hst := fun b => hBr.store (k := i) (by rw [greatTo_len]; exact hlt) b
          have hset := greatTo_set hlt
          have hkeep := greatTo_keep hlt
          have hnat := greatB_nat (byteAt t i)
          have hdef : greatB (byteAt t i) = if 97 ≤ (byteAt t i).toNat ∧ (byteAt t i).toNat ≤ 122 then byteAt t i - 32 else byteAt t i := rfl
          have hb := (byteAt t i).toNat_lt
          generalize byteAt t i = c at *
          by_cases hc1 : 97 ≤ c.toNat
          · by_cases hc2 : c.toNat ≤ 122
            · have hv := hnat hc1 hc2
              have h2 := hst (greatB c)
              have hcast : (((greatB c).toNat : Nat) : Int) = (c.toNat : Int) - 32 := by rw [hv]; omega
              rw [hset, hcast] at h2
              have H2 := Lib.hid h2
              clear hst hset hkeep hnat hdef hv h2 hBr hcast
              go_wp2_with fail
              go_roundw
              case rel => exact ⟨i + 1, by omega, by go_num, H2.out, hbr.setCell hg0 _⟩
              case measure => simp [intOf]; omega
            · have hk := hkeep (by rw [hdef, if_neg (by omega)])
              have h2 : BytesAt wr g (greatTo t (i + 1)) := by rw [hk]; exact hBr
              have H2 := Lib.hid h2
              clear hst hset hkeep hnat hdef hk h2 hBr
              go_wp2_with fail
              go_roundw
              case rel => exact ⟨i + 1, by omega, by go_num, H2.out, hbr⟩
              case measure => simp [intOf]; omega
          · have hk := hkeep (by rw [hdef, if_neg (by omega)])
            have h2 : BytesAt wr g (greatTo t (i + 1)) := by rw [hk]; exact hBr
            have H2 := Lib.hid h2
            clear hst hset hkeep hnat hdef hk h2 hBr
            go_wp2_with fail
            go_roundw
            case rel => exact ⟨i + 1, by omega, by go_num, H2.out, hbr⟩
            case measure => simp [intOf]; omega
        · obtain rfl : i = t.size := by omega
          have hBc : ∀ w' : World, Below wr.heap.size wr w' → (convert 32 9 (.slice (some ⟨g, 0, none⟩) t.size cap)).run Tryz.prog w' = .ok (.string (greatS t)) w' := fun w' hb => by
            have hcv := run_back w' 32 9 5 g cap _ Tryz.underlying32 Tryz.underlying5 Tryz.underlying9 (hBr.below hb hBr.lt)
            rw [greatTo_len, greatTo_all] at hcv
            exact hcv
          have HBC := Lib.hid hBc
          clear hBr hBc hB
          have hS := HS.out.below hbr
          have hU := HU.out.below hbr
          have hH := HH.out.below hbr
          go_wp2_with fail
          refine (C4.out _ hH hS hU).mono ?_
          rintro e w6 ⟨rfl, hb6⟩
          have hS := hS.below hb6
          have hU := hU.below hb6
          have hH := hH.below hb6
          go_wp2_with fail
          refine (C5.out _ hH hS hU).mono ?_
          rintro e w7 ⟨rfl, hb7⟩
          have hS := hS.below hb7
          have hU := hU.below hb7
          have hH := hH.below hb7
          have hb67 := Bt hb6 hb7
          have hcv := HBC.out w7 hb67
          have hbE := Bt hbr hb67
          clear hb6 hb7 hb67
          go_wp2_with fail
          refine (C6.out _ hH hS hU).mono ?_
          rintro e w8 ⟨rfl, hb8⟩
          have hbF := Bt hbE hb8
          clear hcv
          go_wp2_with fail
          go_ret
          exact ⟨rfl, hbF⟩
end Go.Proofs.YtbonnmkkacplgaaGreatDoor
