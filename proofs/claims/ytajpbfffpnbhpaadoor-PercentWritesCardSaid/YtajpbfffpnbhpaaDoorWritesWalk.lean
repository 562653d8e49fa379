/- The walk of PercentWrites. -/
import Derived.Test.YtajpbfffpnbhpaaDoorPctEnc
import Derived.Test.YtajpbfffpnbhpaaDoorReadsWalk
import Derived.Test.YtajpbfffpnbhpaaDoorRowed
namespace Go.Proofs.YtajpbfffpnbhpaaDoor
open Go.RowKit

theorem writes_long (a : Option Addr) (len cap : Nat) (k : ByteArray) (w : World) (hg : Handle w) (h : 3000 < len ∨ (len ≤ 3000 ∧ 300 < k.size)) : Calls Tryd.prog 4 #[.slice a len cap, .string k] w fun e w' => e = .returned (.bool true) ∧ Below w.heap.size w w' := by
  rcases h with h | ⟨h, h'⟩
  all_goals
    go_enter Tryd.func4, Tryd.ntmps4
    go_wp2_with fail
    refine (speaks03 _ hg).mono ?_
    rintro e w1 ⟨rfl, hb1⟩
    go_wp2_with fail
    go_ret
    exact ⟨rfl, hb1⟩

set_option maxHeartbeats 3200000 in
set_option maxRecDepth 100000 in
theorem writes_walk (a : Option Addr) (len cap : Nat) (s k : ByteArray) (w : World) (hg : Handle w) (hsz : s.size = len) (hx : BytesSl w (.slice a len cap) s) (hl : len ≤ 3000) (hk : k.size ≤ 300) : Calls Tryd.prog 4 #[.slice a len cap, .string k] w fun e w' => e = .returned (.bool true) ∧ Below w.heap.size w w' := by
  obtain ⟨ht1, ht2⟩ := told_enc k s.data.toList
  have hen : ofL (encL k s.data.toList) = encS k s := rfl
  rw [hen] at ht1 ht2
  have hez : (encS k s).size ≤ 9000 := by
    unfold encS
    rw [ofL_size]
    have := encL_len k s.data.toList
    have h2 : s.data.toList.length = s.size := rfl
    omega
  have cE := Lib.hid (fun W v hv => percent_Encode v s k W (by omega) hv)
  have cR := Lib.hid (fun W hv => ref_Encode (.slice a len cap) s k W (by omega) (by omega) hv)
  have cD := Lib.hid (fun W => percent_Decode (encS k s) W (by omega))
  have HT1 := Lib.hid ht1
  have HT2 := Lib.hid ht2
  have HSZ := Lib.hid hsz
  have hof := ofL_list s
  have hcl := fun W (h : BytesSl W (.slice a len cap) s) => h.conv
  have HOF := Lib.hid hof
  have HCL := Lib.hid hcl
  have hss : s.size ≤ 3000 := by omega
  clear ht1 ht2 hen hez hof hcl hsz
  generalize encS k s = q at *
  have e1 : (q.toList == q.toList) = true := beq_self_eq_true _
  have e2 : (s.toList == s.toList) = true := beq_self_eq_true _
  go_enter Tryd.func4, Tryd.ntmps4
  go_wp2_with fail
  refine (speaks03 _ hg).mono ?_
  rintro e w1 ⟨rfl, hb1⟩
  have hx1 := hx.below hb1
  have hba : Below w1.heap.size w1 (w1.alloc (.cells #[] 5)) := (Below.refl _ _).alloc (Nat.le_refl _) _
  have hown := OwnB.lit (base := w1.heap.size) w1 [] #[] 0 rfl rfl (Nat.le_refl _) (by simp)
  have hx2 := hx1.below hba
  go_wp2_with (at_builtin; refine wpList_app_bytes rfl _ _ rfl w1.heap.size _ _ rfl hown _ s rfl hx2 (by simp; omega) hba.size ?_)
  intro v2 w2 hown2 hgr
  have hb2 : Below w1.heap.size w1 w2 := hown.under hba (Nat.le_refl _) hgr
  have hx3 := hx1.below hb2
  have hb12 := Bt hb1 hb2
  have hin : BytesSl w2 v2 s := by have := hown2.sl; rw [show (⟨s.data.toList.toArray⟩ : ByteArray) = s from HOF.out] at this; exact this
  clear hgr hown hx2 hba hb1 hb2 hx1
  go_wp2_with fail
  refine (cE.out _ v2 hin).mono ?_
  rintro e w3 ⟨rfl, hb3⟩
  have hx4 := hx3.below hb3
  have hown3 := hown2.below hb3
  have hb13 := Bt hb12 hb3
  clear hin hown2 hb12 hb3 hx3
  go_wp2_with fail
  refine (cD.out _).mono ?_
  rintro e w4 ⟨hb4, h⟩
  have hx5 := hx4.below hb4
  have hown4 := hown3.below hb4
  have hb14 := Bt hb13 hb4
  clear hown3 hb13 hb4 hx4
  rcases h with ⟨_, v4, rfl, hown5⟩ | ⟨i, hi, _⟩
  · rw [HT2.out] at hown5
    go_wp2_with fail
    refine (cR.out _ hx5).mono ?_
    rintro e w6 ⟨rfl, hb6⟩
    have hc1 := HCL.out _ (hx5.below hb6)
    have hc2 := (hown4.below hb6).conv
    have hc3 := (hown5.below hb6).conv
    have hb16 := Bt hb14 hb6
    rw [show (⟨s.data.toList.toArray⟩ : ByteArray) = s from HOF.out] at hc2 hc3
    clear hown4 hown5 hb14 hb6 hx5
    go_wp2_with fail
    go_ret
    exact ⟨rfl, hb16⟩
  · rw [HT1.out] at hi; cases hi

theorem walkPercentWrites (a : Option Addr) (len cap : Nat) (z : List Int) (k : ByteArray) (w : World) (hg : Handle w) (hz : IsRow .u8 w a len cap z) (_ : k.size ≤ maxLen) : Calls Tryd.prog 4 #[.slice a len cap, .string k] w fun e w' => e = .returned (.bool true) ∧ Below w.heap.size w w' := by
  by_cases h : len ≤ 3000 ∧ k.size ≤ 300
  · obtain ⟨s, h0, hx⟩ := hz.bytes
    exact writes_walk a len cap s k w hg h0 hx h.1 h.2
  · exact writes_long a len cap k w hg (by omega)
end Go.Proofs.YtajpbfffpnbhpaaDoor
