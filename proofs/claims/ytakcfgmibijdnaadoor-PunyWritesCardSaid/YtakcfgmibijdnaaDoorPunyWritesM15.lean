/- The walk of PunyWrites. -/
import Derived.Test.YtakcfgmibijdnaaDoorPunyWritesM10
import Derived.Test.YtakcfgmibijdnaaDoorPunyWritesM12
import Derived.Test.YtakcfgmibijdnaaDoorPunyWritesM13
import Derived.Test.YtakcfgmibijdnaaDoorPunyWritesM9
import Derived.Test.YtakcfgmibijdnaaDoorPunyWritesM14

namespace Go.Proofs.YtakcfgmibijdnaaDoor
open Go.RowKit

theorem right_nats : ∀ (l : List Int), rightLen l = l.length → (∀ c ∈ nats l, rightB (c : Int) = true) ∧ l = intsN (nats l) := by
  intro l hl
  have h := right_all l hl
  refine ⟨fun c hc => (rightC_iff c).1 (h c hc), ?_⟩
  apply List.ext_getElem
  · simp [intsN, nats]
  · intro j h1 h2
    have h3 := (rightLen_step l j (by omega) h1).2
    have h4 : l.getD j 0 = l[j] := by simp [List.getD, h1]
    rw [h4] at h3
    have h5 : 0 ≤ l[j] := by
      cases hr : rightB l[j] with
      | true => obtain ⟨c, e, _⟩ := right_nat hr; omega
      | false => have := h3 hr; omega
    simp [intsN, nats]
    omega
theorem encE_inv {zs : List Int} {l : List UInt8} (h : encE zs = .ok l) : zs.length ≤ 256 ∧ rightLen zs = zs.length ∧ l = encN (nats zs) := by
  by_cases h1 : 256 < zs.length
  · rw [encE_long h1] at h; cases h
  · by_cases h2 : rightLen zs = zs.length
    · rw [encE_ok h1 h2] at h; cases h; exact ⟨by omega, h2, rfl⟩
    · have := rightLen_le zs
      rw [encE_bad h1 rfl (by omega)] at h; cases h
/-- What was encoded is read as its characters. -/
theorem enc_back {zs : List Int} {l : List UInt8} (h : encE zs = .ok l) (hl : l.length ≤ 1024) : decE ⟨l.toArray⟩ = .ok (nats zs) ∧ zs = intsN (nats zs) := by
  obtain ⟨h1, h2, rfl⟩ := encE_inv h
  obtain ⟨h3, h4⟩ := right_nats zs h2
  exact ⟨dec_encN (nats zs) h3 (by rw [nats_len]; exact h1) hl, h4⟩
set_option maxHeartbeats 1600000 in
theorem punyWrites_long (a : Option Addr) (n cap : Nat) (w : World) (h : 400 < n) : Calls Tryd.prog 7 #[.slice a n cap] w fun e w' => e = .returned (.bool true) ∧ Below w.heap.size w w' := by
  go_enter Tryd.func7, Tryd.ntmps7
  go_wp2_with fail
  refine (speaks09 _).mono ?_
  rintro e w1 ⟨rfl, hb1⟩
  go_wp2_with fail
  go_ret
  exact ⟨rfl, hb1⟩
set_option maxHeartbeats 6400000 in
set_option maxRecDepth 100000 in
theorem punyWrites_walk (x : Value) (zs : List Int) (la ca : Nat) (pa : Option Addr) (e0 : x = .slice pa la ca) (h0 : zs.length = la) (hl : la ≤ 400) (w : World) (hH : Handle w) (hx : IntsSl w x zs) :
    Calls Tryd.prog 7 #[x] w fun e w' => e = .returned (.bool true) ∧ Below w.heap.size w w' := by
  subst e0
  subst h0
  have c2 := Lib.hid (fun v W h => puny_Encode v zs W h (by omega))
  have c3 := Lib.hid (fun v W h => ref09_Encode v zs W h (by omega))
  have c4 := Lib.hid (fun v u W h h2 => ref05_Same v u zs W h h2 (by omega))
  have c5 := Lib.hid (fun v k i W hg hv => told09 v k i W hg hv)
  have c6 := Lib.hid (fun s W => puny_Decode s W)
  have HX := Lib.hid hx
  clear hx
  go_enter Tryd.func7, Tryd.ntmps7
  go_wp2_with fail
  refine (speaks09 _).mono ?_
  rintro e w1 ⟨rfl, hb1⟩
  have HX1 := Lib.hid (HX.out.below hb1)
  have hg1 := hH.below hb1
  have hbf : Below w1.heap.size w1 (w1.alloc (.cells #[] 3)) := (Below.refl _ _).alloc (Nat.le_refl _) _
  have hown0 := OwnZ.lit0 w1 w1.heap.size (Nat.le_refl _)
  have hx1 := HX1.out.below hbf
  have hA1 : ([] : List Int).length + zs.length ≤ 1073741824 := by simp; omega
  have hA2 : w1.heap.size ≤ (w1.alloc (.cells #[] 3)).heap.size := by simp
  go_wp2_with (at_builtin; refine wpList_app_intsZ rfl _ _ rfl w1.heap.size _ [] rfl hown0 _ zs rfl hx1 hA1 hA2 ?_)
  intro v2 w2 hown2 hg2
  have hb12 : Below w1.heap.size w1 w2 := hbf.grown hg2 hbf.size (fun j hj => (World.ownsRow.lt hown0 j hj).1)
  replace hown2 : OwnZ w2 w1.heap.size v2 zs := hown2
  have hg2' := hg1.below hb12
  have HX2 := Lib.hid (HX1.out.below hb12)
  have HS2 := Lib.hid hown2.sl
  have hb2 := Bt hb1 hb12
  clear hg2 hown0 hx1 hbf hb12 hb1 hg1 hA1 hA2 hown2
  go_wp2_with fail
  refine (c2.out _ _ HS2.out).mono ?_
  rintro e w3 ⟨hb3, h3⟩
  have hg3 := hg2'.below hb3
  have HX3 := Lib.hid (HX2.out.below hb3)
  have HS3 := Lib.hid (HS2.out.below hb3)
  have hb13 := Bt hb2 hb3
  clear hb2 hb3 hg2'
  rcases h3 with ⟨k, i, v, hE, hk, rfl, hv⟩ | ⟨l, hE, rfl⟩
  · have HE := Lib.hid hE
    have HV := Lib.hid hv
    obtain ⟨p, rfl⟩ := hv.ne_nil
    clear hE hv
    go_wp2_with fail
    refine (c3.out _ _ HX3.out).mono ?_
    rintro e w4 ⟨hb4, h4⟩
    have hg4 := hg3.below hb4
    have HX4 := Lib.hid (HX3.out.below hb4)
    have HS4 := Lib.hid (HS3.out.below hb4)
    have hb14 := Bt hb13 hb4
    rcases h4 with ⟨k', i', hE', _, rfl⟩ | ⟨l', hE', _⟩
    · rw [HE.out] at hE'
      obtain ⟨rfl, rfl⟩ : k = k' ∧ i = i' := by cases hE'; exact ⟨rfl, rfl⟩
      have HV4 := Lib.hid (show IsErr w4 _ k i from .inr ⟨hk, .nilIface, HV.out.below hb4⟩)
      clear hE' hb4 hb13 hg3
      go_wp2_with fail
      refine (c5.out _ k i _ hg4 HV4.out).mono ?_
      rintro e w5 ⟨rfl, hb5⟩
      have hb15 := Bt hb14 hb5
      go_wp2_with fail
      refine (c4.out _ _ _ (HS4.out.below hb5) (HX4.out.below hb5)).mono ?_
      rintro e w6 ⟨rfl, q, rfl⟩
      have hb16 := below_drewN hb15 q
      go_wp2_with fail
      go_ret
      exact ⟨rfl, hb16⟩
    · rw [HE.out] at hE'; cases hE'
  · have HE := Lib.hid hE
    have hsz : (⟨l.toArray⟩ : ByteArray).size = l.length := by show l.toArray.size = _; simp
    have heq : ((⟨l.toArray⟩ : ByteArray).toList == (⟨l.toArray⟩ : ByteArray).toList) = true := beq_self_eq_true _
    have hback := fun h => enc_back hE h
    have HBK := Lib.hid hback
    clear hE hback
    go_wp2_with fail
    refine (c3.out _ _ HX3.out).mono ?_
    rintro e w4 ⟨hb4, h4⟩
    have hg4 := hg3.below hb4
    have HX4 := Lib.hid (HX3.out.below hb4)
    have HS4 := Lib.hid (HS3.out.below hb4)
    have hb14 := Bt hb13 hb4
    rcases h4 with ⟨k', i', hE', _⟩ | ⟨l', hE', rfl⟩
    · rw [HE.out] at hE'; cases hE'
    · rw [HE.out] at hE'
      obtain rfl : l = l' := by cases hE'; rfl
      clear hE' hb4 hb13 hg3
      generalize (⟨l.toArray⟩ : ByteArray) = S at *
      have cT := Lib.hid (c5.out .nilIface 0 0 _ hg4 (.inl ⟨rfl, rfl⟩))
      by_cases h1024 : S.size ≤ 1024
      · have hI : ¬ (S.size : Int) > 1024 := by omega
        obtain ⟨hD, hZ⟩ := HBK.out (by omega)
        have HD := Lib.hid hD
        have HZ := Lib.hid hZ
        clear hD hZ h1024
        go_wp2_with fail
        refine cT.out.mono ?_
        rintro e w5 ⟨rfl, hb5⟩
        have hb15 := Bt hb14 hb5
        have HX5 := Lib.hid (HX4.out.below hb5)
        go_wp2_with fail
        refine (c4.out _ _ _ (HS4.out.below hb5) (HX4.out.below hb5)).mono ?_
        rintro e w6 ⟨rfl, q, rfl⟩
        have hb16 := below_drewN hb15 q
        have HX6 := Lib.hid (HX5.out.below (below_drewN (Below.refl _ _) q))
        go_wp2_with fail
        refine (c6.out _ _).mono ?_
        rintro e w7 ⟨hb7, h7⟩
        have HX7 := Lib.hid (HX6.out.below hb7)
        have hb17 := Bt hb16 hb7
        rcases h7 with ⟨k, j, v, hE, _⟩ | ⟨m, v, hE, rfl, hown⟩
        · rw [HD.out] at hE; cases hE
        · rw [HD.out] at hE
          obtain rfl : nats zs = m := by cases hE; rfl
          have hsl := hown.sl
          rw [← HZ.out] at hsl
          have HSL := Lib.hid hsl
          obtain ⟨va, vc, rfl⟩ := row_len hown
          clear hE hown hsl
          go_wp2_with fail
          refine (c4.out _ _ _ HSL.out HX7.out).mono ?_
          rintro e w8 ⟨rfl, q8, rfl⟩
          have hb18 := below_drewN hb17 q8
          go_wp2_with fail
          go_ret
          exact ⟨rfl, hb18⟩
      · have hI : (S.size : Int) > 1024 := by omega
        clear h1024
        go_wp2_with fail
        refine cT.out.mono ?_
        rintro e w5 ⟨rfl, hb5⟩
        have hb15 := Bt hb14 hb5
        go_wp2_with fail
        refine (c4.out _ _ _ (HS4.out.below hb5) (HX4.out.below hb5)).mono ?_
        rintro e w6 ⟨rfl, q, rfl⟩
        have hb16 := below_drewN hb15 q
        go_wp2_with fail
        go_ret
        exact ⟨rfl, hb16⟩
theorem walkPunyWrites (a : Option Addr) (n cap : Nat) (zs : List Int) (w : World) (hH : Handle w) (hr : IsRow .i64 w a n cap zs) : Calls Tryd.prog 7 #[.slice a n cap] w fun e w' => e = .returned (.bool true) ∧ Below w.heap.size w w' := by
  by_cases hl : 400 < n
  · exact punyWrites_long a n cap w hl
  · obtain ⟨l, h0, hs, _⟩ := hr.ints
    exact punyWrites_walk _ l n cap a rfl h0 (by omega) w hH hs
end Go.Proofs.YtakcfgmibijdnaaDoor
