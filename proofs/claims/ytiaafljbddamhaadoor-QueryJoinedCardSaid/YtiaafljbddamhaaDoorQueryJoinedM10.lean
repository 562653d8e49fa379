/- The walk of QueryJoined. -/
import Derived.Test.YtiaafljbddamhaaDoorQueryJoinedM9

namespace Go.Proofs.YtiaafljbddamhaaDoor
open Go.RowKit

theorem OwnI.lit00 (w : World) (base : Nat) (hb : base ≤ w.heap.size) : OwnI (w.alloc (.cells #[] 78)) base (.slice (some ⟨w.heap.size, 0, none⟩) 0 0) [] :=
  World.ownsRow_lit w #[] 0 hb (Nat.zero_le _) rfl
theorem qjoined_long (s t : ByteArray) (w : World) (hg : Handle w) (hU : Utf8Laid w) (h : 500 < s.size ∨ (s.size ≤ 500 ∧ 500 < t.size)) : Calls Tryd.prog 10 #[.string s, .string t] w fun e w' => e = .returned (.bool true) ∧ Below w.heap.size w w' := by
  rcases h with h | ⟨h, h2⟩
  · have e1 : (s.size : Int) > 500 := by omega
    go_enter Tryd.func10, Tryd.ntmps10
    go_wp2_with fail
    refine (speaks16 _ hg hU).mono ?_
    rintro e w1 ⟨rfl, hb1⟩
    go_wp2_with fail
    go_ret
    exact ⟨rfl, hb1⟩
  · have e1 : ¬ (s.size : Int) > 500 := by omega
    have e2 : (t.size : Int) > 500 := by omega
    go_enter Tryd.func10, Tryd.ntmps10
    go_wp2_with fail
    refine (speaks16 _ hg hU).mono ?_
    rintro e w1 ⟨rfl, hb1⟩
    go_wp2_with fail
    go_ret
    exact ⟨rfl, hb1⟩
set_option maxHeartbeats 3200000 in
set_option maxRecDepth 100000 in
theorem qjoined_walk (s t : ByteArray) (w : World) (hg : Handle w) (hU : Utf8Laid w) (hs : s.size ≤ 500) (ht : t.size ≤ 500) : Calls Tryd.prog 10 #[.string s, .string t] w fun e w' => e = .returned (.bool true) ∧ Below w.heap.size w w' := by
  have hjz : (s ++ ⟨#[38]⟩ ++ t).size ≤ 2000 := by
    rw [ByteArray.size_append, ByteArray.size_append]
    have : (⟨#[38]⟩ : ByteArray).size = 1 := rfl
    omega
  have cA := Lib.hid (fun W h1 h2 => query_Items' s W h1 h2 (by omega))
  have cB := Lib.hid (fun W h1 h2 => query_Items' t W h1 h2 (by omega))
  have cC := Lib.hid (fun W h1 h2 => query_Items' (s ++ ⟨#[38]⟩ ++ t) W h1 h2 (by omega))
  have hboth : (itemsQ s).2.1 = 0 → (itemsQ t).2.1 = 0 → (itemsQ s).1.length + (itemsQ t).1.length ≤ 256 → itemsQ (s ++ ⟨#[38]⟩ ++ t) = ((itemsQ s).1 ++ (itemsQ t).1, 0, 0) := fun h1 h2 h3 => goG_both stepQ_right 38 s t h1 h2 h3
  have hfirst : (itemsQ s).2.1 ≠ 0 → itemsQ (s ++ ⟨#[38]⟩ ++ t) = itemsQ s := fun h => goG_first stepQ_right 38 s t h
  have HBOTH := Lib.hid hboth
  have HFIRST := Lib.hid hfirst
  have hla := itemsQ_len s
  have hlb := itemsQ_len t
  clear hboth hfirst hjz
  go_enter Tryd.func10, Tryd.ntmps10
  go_wp2_with fail
  refine (speaks16 _ hg hU).mono ?_
  rintro e w1 ⟨rfl, hb1⟩
  go_wp2_with fail
  refine (cA.out _ (hg.below hb1) (hU.below hb1)).mono ?_
  rintro e w2 ⟨hb2, a1, c1, v1, rfl, _, hc1, hsl1, hv1⟩
  have hb12 := Bt hb1 hb2
  clear hb1 hb2
  go_wp2_with fail
  refine (cB.out _ (hg.below hb12) (hU.below hb12)).mono ?_
  rintro e w3 ⟨hb3, a2, c2, v2, rfl, _, hc2, hsl2, hv2⟩
  have hb13 := Bt hb12 hb3
  have hsl1 := hsl1.below hb3
  have hv1 := hv1.below hb3
  clear hb12 hb3
  go_wp2_with fail
  refine (cC.out _ (hg.below hb13) (hU.below hb13)).mono ?_
  rintro e w4 ⟨hb4, a3, c3, v3, rfl, _, hc3, hsl3, hv3⟩
  have hb14 := Bt hb13 hb4
  have hsl1 := hsl1.below hb4
  have hv1 := hv1.below hb4
  have hsl2 := hsl2.below hb4
  have hv2 := hv2.below hb4
  have hg4 := hg.below hb14
  have hlc := itemsQ_len (s ++ ⟨#[38]⟩ ++ t)
  clear hb13 hb4 cA cB cC
  rcases hv1 with ⟨hk1, rfl⟩ | ⟨hk1, n1, hv1⟩
  · rcases hv2 with ⟨hk2, rfl⟩ | ⟨hk2, n2, hv2⟩
    · by_cases hlen : (itemsQ s).1.length + (itemsQ t).1.length ≤ 256
      · have hj := HBOTH.out hk1 hk2 hlen
        rw [hj] at hv3 hsl3 ⊢
        obtain rfl : v3 = .nilIface := by
          rcases hv3 with ⟨_, h⟩ | ⟨h, _⟩
          · exact h
          · exact absurd rfl h
        have HSL1 := Lib.hid hsl1
        have HSL2 := Lib.hid hsl2
        have HSL3 := Lib.hid hsl3
        clear hsl1 hsl2 hsl3 hv3 hj hk1 hk2 HBOTH HFIRST hlc
        generalize (itemsQ s).1 = la at *
        generalize (itemsQ t).1 = lb at *
        have hzl : (la ++ lb).length = la.length + lb.length := List.length_append
        have HZL := Lib.hid hzl
        clear hzl
        have eL : ¬ (la.length : Int) + (lb.length : Int) > 256 := by omega
        have hb5 := hb14.alloc hb14.size (.cells #[] 78)
        have hst := (Below.refl w4.heap.size w4).alloc (Nat.le_refl _) (.cells #[] 78)
        have HI1 := Lib.hid (HSL1.out.below hst).items
        have HO := Lib.hid (OwnI.lit00 w4 w4.heap.size (Nat.le_refl _))
        go_wp2_with (at_builtin; refine wpList_free rfl ?_; refine wpList_app_items rfl _ _ rfl w4.heap.size _ _ rfl HO.out a1 c1 la rfl HI1.out (by simp; omega) (by simp) ?_)
        intro v6 w6 hown6 hg6
        have hb6 := HO.out.under hb5 (by have := hb14.size; omega) hg6
        have hst6 : Below w4.heap.size w4 w6 := hst.grown hg6 (by simp) (fun j hj => by injection hj with hj; exact Nat.le_of_eq hj)
        have HI2 := Lib.hid (HSL2.out.below hst6).items
        have hs6 := hst6.size
        clear hg6 HI1 HO hst hb5
        go_wp2_with (at_builtin; refine wpList_free rfl ?_; refine wpList_app_items rfl _ _ rfl w4.heap.size _ _ rfl hown6 a2 c2 lb rfl HI2.out (by omega) hs6 ?_)
        intro v7 w7 hown7 hg7
        have hb7 := hown6.under hb6 (by have := hb14.size; omega) hg7
        have hst7 : Below w4.heap.size w4 w7 := hst6.grown hg7 hs6 (fun j hj => (World.ownsRow.lt hown6 j hj).1)
        have hs3 := HSL3.out.below hst7
        obtain ⟨ga, gc, rfl, _, hgc, hs7⟩ := hown7.sl
        have cS := Lib.hid (ref16_Same a3 c3 ga gc (la ++ lb) (la ++ lb) _ hs3 hs7 (by rw [HZL.out]; omega) (by rw [HZL.out]; omega))
        rw [HZL.out] at cS
        rw [HZL.out]
        clear hg7 hown6 hb6 hst6 hs6 HI2 hs3 hs7 hown7 HSL1 HSL2 HSL3
        go_wp2_with fail
        refine cS.out.mono ?_
        rintro e w8 ⟨rfl, q, rfl⟩
        have hb8 := below_drewN hb7 q
        go_wp2_with fail
        go_ret
        exact ⟨rfl, hb8⟩
      · have eL : ((itemsQ s).1.length : Int) + ((itemsQ t).1.length : Int) > 256 := by omega
        clear hsl1 hsl2 hsl3 hv3 HBOTH HFIRST
        go_wp2_with fail
        go_ret
        exact ⟨rfl, hb14⟩
    · obtain ⟨u, rfl⟩ := hv2.ne_nil
      clear hv2 hsl1 hsl2 hsl3 hv3 HBOTH HFIRST
      go_wp2_with fail
      go_ret
      exact ⟨rfl, hb14⟩
  · have hj := HFIRST.out hk1
    rw [hj] at hv3
    have hv1' : IsErr w4 v1 (itemsQ s).2.1 (itemsQ s).2.2 := .inr ⟨hk1, n1, hv1⟩
    obtain ⟨u, rfl⟩ := hv1.ne_nil
    have cK3 := Lib.hid (fault_Kind _ _ _ w4 hg4 hv3)
    have cK1 := Lib.hid (fun W hg hb => fault_Kind _ _ _ W hg (hv1'.below (w' := W) hb))
    clear hv1 hv1' hsl1 hsl2 hsl3 hv3 HBOTH HFIRST hj hv2
    have ek : (((itemsQ s).2.1 : Int) == ((itemsQ s).2.1 : Int)) = true := by simp
    generalize (itemsQ s).2.1 = k at *
    go_wp2_with fail
    refine cK3.out.mono ?_
    rintro e w5 ⟨rfl, hb5⟩
    have hb15 := Bt hb14 hb5
    go_wp2_with fail
    refine (cK1.out _ (hg4.below hb5) hb5).mono ?_
    rintro e w6 ⟨rfl, hb6⟩
    have hb16 := Bt hb15 hb6
    go_wp2_with fail
    go_ret
    exact ⟨rfl, hb16⟩
theorem walkQueryJoined (s t : ByteArray) (w : World) (hg : Handle w) (hU : Utf8Laid w) (_ : s.size ≤ maxLen) (_ : t.size ≤ maxLen) : Calls Tryd.prog 10 #[.string s, .string t] w fun e w' => e = .returned (.bool true) ∧ Below w.heap.size w w' := by
  by_cases h : s.size ≤ 500
  · by_cases h2 : t.size ≤ 500
    · exact qjoined_walk s t w hg hU h h2
    · exact qjoined_long s t w hg hU (.inr ⟨h, by omega⟩)
  · exact qjoined_long s t w hg hU (.inl (by omega))
end Go.Proofs.YtiaafljbddamhaaDoor
