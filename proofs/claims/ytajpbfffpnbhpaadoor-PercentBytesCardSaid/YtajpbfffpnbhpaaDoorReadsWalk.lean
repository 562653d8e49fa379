/- The examples of chapter 03's statements; the walk of PercentReads. -/
import Derived.Test.YtajpbfffpnbhpaaDoorPctRef
import Derived.Test.YtajpbfffpnbhpaaDoorKind
import Derived.Test.YtajpbfffpnbhpaaDoorHas
import Derived.Deep.RegionHeld
import Derived.IntWalk
import Derived.Deep.DeepCutAuto
namespace Go.Proofs.YtajpbfffpnbhpaaDoor
open Go.RowKit

theorem sp31 : (told ⟨#[37, 55, 101, 37, 50, 102, 97, 37, 52, 49]⟩).2 = none := by decide +kernel
theorem sp32 : normS ⟨#[37, 55, 101, 37, 50, 102, 97, 37, 52, 49]⟩ = ⟨#[126, 37, 50, 70, 97, 65]⟩ := by decide +kernel
theorem sp33 : (told ⟨#[97, 37, 50]⟩).2 = some 1 := by decide +kernel

set_option maxHeartbeats 1600000 in
set_option maxRecDepth 100000 in
theorem speaks03 (w : World) (hg : Handle w) : Calls Tryd.prog 7 #[] w fun e w' => e = .returned (.bool true) ∧ Below w.heap.size w w' := by
  go_enter Tryd.func7, Tryd.ntmps7
  go_wp2_with fail
  refine (percent_Normal ⟨#[37, 55, 101, 37, 50, 102, 97, 37, 52, 49]⟩ _ (by decide)).mono ?_
  rintro e w1 ⟨hb1, h⟩
  rcases h with ⟨_, rfl⟩ | ⟨i, hi, _⟩
  · rw [sp32]
    have hg1 := hg.below hb1
    go_wp2_with fail
    refine (percent_Right ⟨#[97, 37, 50]⟩ _ (by decide)).mono ?_
    rintro e w2 ⟨hb2, h⟩
    rw [sp33] at h
    rcases h with ⟨h, _⟩ | ⟨i, hi, v, rfl, hv⟩
    · cases h
    · obtain rfl : i = 1 := by cases hi; rfl
      clear hi
      have hg2 := hg1.below hb2
      have hb12 := Bt hb1 hb2
      have hvk := hv
      obtain ⟨p, rfl⟩ := hv.ne_nil
      have HV := Lib.hid hvk
      clear hv hvk
      go_wp2_with fail
      refine (fault_Has _ _ _ _ _ HV.out).mono ?_
      rintro e w4 ⟨rfl, rfl⟩
      have e1 : isKind 11 11 = true := rfl
      go_wp2_with fail
      refine (fault_At_is _ _ _ _ _ hg2 HV.out).mono ?_
      rintro e w5 ⟨rfl, hb5⟩
      have hb15 := Bt hb12 hb5
      go_wp2_with fail
      go_ret
      exact ⟨rfl, hb15⟩
  · rw [sp31] at hi; cases hi

theorem reads_long (s : ByteArray) (w : World) (hg : Handle w) (h : 3000 < s.size) : Calls Tryd.prog 3 #[.string s] w fun e w' => e = .returned (.bool true) ∧ Below w.heap.size w w' := by
  go_enter Tryd.func3, Tryd.ntmps3
  go_wp2_with fail
  refine (speaks03 _ hg).mono ?_
  rintro e w1 ⟨rfl, hb1⟩
  go_wp2_with fail
  go_ret
  exact ⟨rfl, hb1⟩

def Held3 (w0 : World) (B : Nat) (v : Value) (l : List UInt8) (W : World) : Prop := OwnB W B v l ∧ Below w0.heap.size w0 W
theorem Held3.below {w0 W W' : World} {B : Nat} {v : Value} {l : List UInt8} (h : Held3 w0 B v l W) (hb : Below W.heap.size W W') : Held3 w0 B v l W' := ⟨h.1.below hb, Bt h.2 hb⟩
theorem Held3.drew {w0 W : World} {B : Nat} {v : Value} {l : List UInt8} (h : Held3 w0 B v l W) : Held3 w0 B v l W.drew := h.below ((Below.refl _ _).drew)
theorem IsFault.below' {w w' : World} {v : Value} {k i : Int} (h : IsFault w v k i) (hb : Below w.heap.size w w') : IsFault w' v k i := FaultIs.below h hb

set_option maxHeartbeats 6400000 in
set_option maxRecDepth 100000 in
theorem reads_walk (s : ByteArray) (w : World) (hg : Handle w) (hs : s.size ≤ 3000) : Calls Tryd.prog 3 #[.string s] w fun e w' => e = .returned (.bool true) ∧ Below w.heap.size w w' := by
  go_enter Tryd.func3, Tryd.ntmps3
  go_wp2_with fail
  refine (speaks03 _ hg).mono ?_
  rintro e w1 ⟨rfl, hb1⟩
  have hg1 := hg.below hb1
  go_wp2_with fail
  refine (ref_Right03 s _ (by omega)).mono ?_
  rintro e w2 ⟨⟨q, hq⟩, hA⟩
  have hb2 : Below w1.heap.size w1 w2 := by rw [← hq]; exact below_drewN (Below.refl _ _) q
  have hb12 := Bt hb1 hb2
  have hg2 := hg1.below hb2
  clear hq hb1 hb2 hg1
  rcases hA with ⟨hn, rfl⟩ | ⟨i, hi, rfl⟩
  · have HN := Lib.hid hn
    clear hn
    go_wp2_with fail
    refine (percent_Right s _ (by omega)).mono ?_
    rintro e w3 ⟨hb3, hB⟩
    have hb13 := Bt hb12 hb3
    rcases hB with ⟨_, rfl⟩ | ⟨j, hj, _⟩
    · clear hb12 hb3
      go_wp2_with fail
      refine (percent_Decode s _ (by omega)).mono ?_
      rintro e w4 ⟨hb4, hC⟩
      have hb14 := Bt hb13 hb4
      rcases hC with ⟨_, v, rfl, hown⟩ | ⟨j, hj, _⟩
      · clear hb13 hb4
        go_wp2_with fail
        refine (percent_Normal s _ (by omega)).mono ?_
        rintro e w5 ⟨hb5, hD⟩
        have hb15 := Bt hb14 hb5
        rcases hD with ⟨_, rfl⟩ | ⟨j, hj, _⟩
        · have hk0 : Held3 w w3.heap.size v (bytesT s) w5 := ⟨hown.below hb5, hb15⟩
          have hk1 := hk0.drew
          have hc1 := hk1.1.conv
          have cD := Lib.hid (fun W => ref_Decode s W (by omega) HN.out)
          have cN := Lib.hid (fun W => ref_Normal s W (by omega) HN.out)
          clear hown hb5 hb14 hb15 hg2
          generalize bytesT s = bt at *
          generalize normS s = nm at *
          have e1 : (nm.toList == nm.toList) = true := beq_self_eq_true _
          have e2 : ((⟨bt.toArray⟩ : ByteArray).toList == (⟨bt.toArray⟩ : ByteArray).toList) = true := beq_self_eq_true _
          generalize hbs : (⟨bt.toArray⟩ : ByteArray) = bs at *
          have HBS := Lib.hid hbs
          clear hbs
          go_upto_region 12 with (fail)
          go_region_held (Held3 w w3.heap.size v bt) (first | assumption)
            (first
            | (go_at_call 14; refine (cD.out _).mono ?_; rintro e w6 ⟨v6, rfl, hown6, hb6⟩; have hk6 := hk1.below hb6; have hc6 := hown6.conv; have hc7 := hk6.1.conv; rw [HBS.out] at hc6 hc7; dsimp only)
            | (go_at_call 15; refine (cN.out _).mono ?_; rintro e w7 ⟨rfl, hb7⟩; have hk7 := hk6.below hb7; dsimp only))
          all_goals
            go_wp2_with fail
            go_ret
            exact ⟨rfl, hk7.2⟩
        · rw [HN.out] at hj; cases hj
      · rw [HN.out] at hj; cases hj
    · rw [HN.out] at hj; cases hj
  · have HN := Lib.hid hi
    clear hi
    go_wp2_with fail
    refine (percent_Right s _ (by omega)).mono ?_
    rintro e w3 ⟨hb3, hB⟩
    have hb13 := Bt hb12 hb3
    have hg3 := hg2.below hb3
    rcases hB with ⟨h, _⟩ | ⟨j, hj, v3, rfl, hv3⟩
    · rw [HN.out] at h; cases h
    · obtain rfl : i = j := by rw [HN.out] at hj; cases hj; rfl
      clear hb12 hb3 hj hg2
      go_wp2_with fail
      refine (percent_Decode s _ (by omega)).mono ?_
      rintro e w4 ⟨hb4, hC⟩
      have hb14 := Bt hb13 hb4
      have hg4 := hg3.below hb4
      have hv3' := hv3.below' hb4
      rcases hC with ⟨h, _⟩ | ⟨j, hj, v4, rfl, hv4⟩
      · rw [HN.out] at h; cases h
      · obtain rfl : i = j := by rw [HN.out] at hj; cases hj; rfl
        clear hb13 hb4 hj hg3 hv3
        go_wp2_with fail
        refine (percent_Normal s _ (by omega)).mono ?_
        rintro e w5 ⟨hb5, hD⟩
        have hb15 := Bt hb14 hb5
        have hg5 := hg4.below hb5
        have hv3 := hv3'.below' hb5
        have hv4' := hv4.below' hb5
        rcases hD with ⟨h, _⟩ | ⟨j, hj, v5, rfl, hv5⟩
        · rw [HN.out] at h; cases h
        · obtain rfl : i = j := by rw [HN.out] at hj; cases hj; rfl
          have H3 := Lib.hid hv3
          have H4 := Lib.hid hv4'
          have H5 := Lib.hid hv5
          obtain ⟨p3, rfl⟩ := hv3.ne_nil
          obtain ⟨p4, rfl⟩ := hv4.ne_nil
          obtain ⟨p5, rfl⟩ := hv5.ne_nil
          clear hb14 hb5 hj hg4 hv3' hv4 hv3 hv4' hv5
          go_wp2_with fail
          refine (fault_At_is _ _ _ _ _ hg5 H3.out).mono ?_
          rintro e w6 ⟨rfl, hb6⟩
          have hg6 := hg5.below hb6
          have hb16 := Bt hb15 hb6
          have K3 := Lib.hid (IsFault.below' H3.out hb6)
          have K4 := Lib.hid (IsFault.below' H4.out hb6)
          have K5 := Lib.hid (IsFault.below' H5.out hb6)
          clear hb15 hb6 hg5 H3 H4 H5
          go_wp2_with fail
          refine (fault_At_is _ _ _ _ _ hg6 K4.out).mono ?_
          rintro e w7 ⟨rfl, hb7⟩
          have hg7 := hg6.below hb7
          have hb17 := Bt hb16 hb7
          have L3 := Lib.hid (IsFault.below' K3.out hb7)
          have L4 := Lib.hid (IsFault.below' K4.out hb7)
          have L5 := Lib.hid (IsFault.below' K5.out hb7)
          clear hb16 hb7 hg6 K3 K4 K5
          go_wp2_with fail
          refine (fault_At_is _ _ _ _ _ hg7 L5.out).mono ?_
          rintro e w8 ⟨rfl, hb8⟩
          have hg8 := hg7.below hb8
          have hb18 := Bt hb17 hb8
          have M3 := Lib.hid (IsFault.below' L3.out hb8)
          have M4 := Lib.hid (IsFault.below' L4.out hb8)
          have M5 := Lib.hid (IsFault.below' L5.out hb8)
          clear hb17 hb8 hg7 L3 L4 L5
          go_wp2_with fail
          refine (fault_Kind_is _ _ _ _ _ hg8 M3.out).mono ?_
          rintro e w9 ⟨rfl, hb9⟩
          have hg9 := hg8.below hb9
          have hb19 := Bt hb18 hb9
          have N4 := Lib.hid (IsFault.below' M4.out hb9)
          have N5 := Lib.hid (IsFault.below' M5.out hb9)
          clear hb18 hb9 hg8 M3 M4 M5
          go_wp2_with fail
          refine (fault_Kind_is _ _ _ _ _ hg9 N4.out).mono ?_
          rintro e w10 ⟨rfl, hb10⟩
          have hg10 := hg9.below hb10
          have hb20 := Bt hb19 hb10
          have O5 := Lib.hid (IsFault.below' N5.out hb10)
          clear hb19 hb10 hg9 N4 N5
          go_wp2_with fail
          refine (fault_Kind_is _ _ _ _ _ hg10 O5.out).mono ?_
          rintro e w11 ⟨rfl, hb11⟩
          have hb21 := Bt hb20 hb11
          go_wp2_with fail
          go_ret
          exact ⟨rfl, hb21⟩

theorem walkPercentReads (s : ByteArray) (w : World) (hg : Handle w) (_ : s.size ≤ maxLen) : Calls Tryd.prog 3 #[.string s] w fun e w' => e = .returned (.bool true) ∧ Below w.heap.size w w' := by
  by_cases h : s.size ≤ 3000
  · exact reads_walk s w hg h
  · exact reads_long s w hg (by omega)
end Go.Proofs.YtajpbfffpnbhpaaDoor
