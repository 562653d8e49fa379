/- The walk of MediaTexts. -/
import Derived.Test.YtndppcklpcfikaaGreatDoorMediaTextsM16
import Derived.Test.YtndppcklpcfikaaGreatDoorMediaTextsM19
import Derived.Deep.RegionHeld

namespace Go.Proofs.YtndppcklpcfikaaGreatDoor
open Go.RowKit

set_option maxHeartbeats 6400000 in
set_option maxRecDepth 100000 in
theorem walkMediaTexts (a b : ByteArray) (pa : Option Addr) (l : List It) (pc : Nat) (n : ByteArray) (w : World) (_ : Utf8Laid w) (ha : a.size ≤ maxLen) (hb : b.size ≤ maxLen) (hlc : l.length ≤ pc) (hpc : pc ≤ maxLen) (hsl : ItemsSl w pa l) (hz : sizedI l) (hn : n.size ≤ maxLen) :
    Calls Tryz.prog 3 #[.agg #[.string a, .string b, .slice pa l.length pc], .string n] w fun e w' => e = .returned (.bool true) ∧ Below w.heap.size w w' := by
  have cG := Lib.hid (fun W (h : ItemsSl W pa l) => great17 a b pa pc l W h ha hb hz (by omega))
  have hno := fun h => greatM_no (a := a) (b := b) (l := l) h
  have hm1 : MediaAt (w.alloc (.cells #[.string a, .string b, .slice pa l.length pc] 24)) w.heap.size a b pa l.length pc := MediaAt.new
  have hst1 := (Below.refl w.heap.size w).alloc (Nat.le_refl _) (.cells #[.string a, .string b, .slice pa l.length pc] 24)
  have HSL := Lib.hid (hsl.below hst1)
  unfold maxLen at hn hpc
  clear hsl hz ha hb
  generalize greatM a b l = gr at *
  go_enter Tryz.func3, Tryz.ntmps3
  go_wp2_with fail
  refine (speaks17 _).mono ?_
  rintro e w2 ⟨rfl, hb2⟩
  have hm2 := hm1.below hb2
  have hb02 := Bt hst1 hb2
  have hs2 := HSL.out.below hb2
  obtain ⟨c0, c1, c2⟩ := hm2.cells
  have L2 := hm2.load
  clear hst1 hb2 HSL hm1
  have CG := Lib.hid (cG.out _ hs2)
  go_wp2_with fail
  refine CG.out.mono ?_
  rintro e w3 ⟨rfl, hb3⟩
  have hm3 := hm2.below hb3
  have hb03 := Bt hb02 hb3
  have hs3 := hs2.below hb3
  clear hm2 hb02 hs2 hb3 cG CG c0 c1 c2 L2
  cases gr with
  | true =>
    go_wp2_with fail
    go_ret
    exact ⟨rfl, hb03⟩
  | false =>
  obtain ⟨h30, h3a, h3b, h3z⟩ := hno rfl
  clear hno
  by_cases hn3 : 300 < n.size
  · have hnI : (n.size : Int) > 300 := by omega
    go_wp2_with fail
    go_ret
    exact ⟨rfl, hb03⟩
  have hnI : ¬ (n.size : Int) > 300 := by omega
  have h1z : ∀ x ∈ l, x.name.size ≤ 1000 ∧ x.value.size ≤ 1000 := fun x hx => by have := h3z x hx; omega
  have cT' : ∀ W, Below w3.heap.size w3 W → Calls Tryz.prog 10 #[.agg #[.string a, .string b, .slice pa l.length pc]] W fun e w' => e = .returned (.string (ofL (mtxt ⟨a, b, l⟩))) ∧ Below W.heap.size W w' := fun W hb => media_Text a b pa pc l W (hs3.below hb) h30 (by omega) (by omega) h1z
  have cR' : ∀ W, Below w3.heap.size w3 W → Calls Tryz.prog 11 #[.agg #[.string a, .string b, .slice pa l.length pc]] W fun e w' => e = .returned (.string (ofL (mtxt ⟨a, b, l⟩))) ∧ Below W.heap.size W w' := fun W hb => ref17_Text a b pa pc l W (hs3.below hb) h30 (by omega) (by omega) h1z
  have cJ' : ∀ W, Calls Tryz.prog 12 #[.agg #[.string a, .string b, .slice pa l.length pc]] W fun e w' => e = .returned (.bool (jsonB a b)) ∧ Below W.heap.size W w' := fun W => media_JSON a b pa l.length pc W (by omega)
  have cK' : ∀ W, Calls Tryz.prog 13 #[.agg #[.string a, .string b, .slice pa l.length pc]] W fun e w' => e = .returned (.bool (jsonB a b)) ∧ Below W.heap.size W w' := fun W => ref17_JSON a b pa l.length pc W (by omega)
  have cP := Lib.hid (fun W (h : ItemsSl W pa l) => media_ParamSl a b n pa pc l W h (by omega))
  have cQ := Lib.hid (fun W (h : ItemsSl W pa l) => ref17_ParamSl a b n pa pc l W h (by omega))
  have cT := Lib.hid cT'
  have cR := Lib.hid cR'
  have cJ := Lib.hid cJ'
  have cK := Lib.hid cK'
  clear cT' cR' cJ' cK' h1z h3z h3a h3b h30
  generalize ofL (mtxt ⟨a, b, l⟩) = T at *
  generalize jsonB a b = J at *
  obtain ⟨c0, c1, c2⟩ := hm3.cells
  have L3 := hm3.load
  have CP := Lib.hid (cP.out _ hs3)
  go_wp2_with fail
  refine CP.out.mono ?_
  rintro e w4 ⟨hb4, hp⟩
  have hm4 := hm3.below hb4
  have hb34 := hb4
  have hs4 := hs3.below hb4
  clear c0 c1 c2 L3 CP
  obtain ⟨c0, c1, c2⟩ := hm4.cells
  have L4 := hm4.load
  have CQ := Lib.hid (cQ.out _ hs4)
  have hp' : ∃ (v : ByteArray) (ok : Bool), e = .returned (.tuple #[.string v, .bool ok]) ∧ ∀ e2 : Ending, ((paramM l n = none ∧ e2 = .returned (.tuple #[.string ⟨#[]⟩, .bool false])) ∨ (∃ v, paramM l n = some v ∧ e2 = .returned (.tuple #[.string v, .bool true]))) → e2 = .returned (.tuple #[.string v, .bool ok]) := by
    rcases hp with ⟨h1, h2⟩ | ⟨v, h1, h2⟩
    · refine ⟨_, _, h2, fun e2 h => ?_⟩
      rcases h with ⟨_, h⟩ | ⟨v, h, _⟩
      · exact h
      · rw [h1] at h; cases h
    · refine ⟨_, _, h2, fun e2 h => ?_⟩
      rcases h with ⟨h, _⟩ | ⟨v', h, h3⟩
      · rw [h1] at h; cases h
      · rw [h1] at h; cases h; exact h3
  obtain ⟨v, ok, rfl, hsame⟩ := hp'
  have HSAME := Lib.hid hsame
  clear hp hsame cP cQ
  go_wp2_with fail
  refine CQ.out.mono ?_
  rintro e w5 ⟨hb5, hp⟩
  obtain rfl := HSAME.out _ hp
  have hm5 := hm4.below hb5
  have hb35 := Bt hb34 hb5
  clear hp HSAME CQ hm4 hb4 hb34 hb5 hs4 hs3 c0 c1 c2 L4 hm3
  have hS : ∀ W, Below w5.heap.size w5 W → W.cell? ⟨w.heap.size, 0, none⟩ = some (.string a) ∧ W.cell? ⟨w.heap.size, 1, none⟩ = some (.string b) ∧ W.cell? ⟨w.heap.size, 2, none⟩ = some (.slice pa l.length pc) ∧ Below w5.heap.size w5 W := fun W hb => by
    obtain ⟨d0, d1, d2⟩ := (hm5.below hb).cells
    exact ⟨d0, d1, d2, hb⟩
  have HS := Lib.hid hS
  have HB5 := Lib.hid hb35
  have HB0 := Lib.hid hb03
  have cT5 := Lib.hid (fun W (hb : Below w5.heap.size w5 W) => cT.out W (HB5.out.trans (hb.mono HB5.out.size)))
  have cR5 := Lib.hid (fun W (hb : Below w5.heap.size w5 W) => cR.out W (HB5.out.trans (hb.mono HB5.out.size)))
  have hd := (Below.refl w5.heap.size w5).drew
  obtain ⟨c0, c1, c2⟩ := hm5.cells
  have eT : (T.toList == T.toList) = true := beq_self_eq_true _
  have eV : (v.toList == v.toList) = true := beq_self_eq_true _
  have eO : (ok == ok) = true := beq_self_eq_true _
  have eJ : (J == J) = true := beq_self_eq_true _
  clear hS hb35 hb03 cT cR hm5
  go_upto_region 7 with (fail)
  first
  | (go_region_held (fun W => W.cell? ⟨w.heap.size, 0, none⟩ = some (.string a) ∧ W.cell? ⟨w.heap.size, 1, none⟩ = some (.string b) ∧ W.cell? ⟨w.heap.size, 2, none⟩ = some (.slice pa l.length pc) ∧ Below w5.heap.size w5 W) (first | assumption | exact HS.out _ (by assumption))
    (first
    | (go_at_call 10; refine (cT5.out _ (by assumption)).mono ?_; rintro e w6 ⟨rfl, hk6⟩; have hk7 := Bt (by assumption) hk6; dsimp only)
    | (go_at_call 11; refine (cR5.out _ (by assumption)).mono ?_; rintro e w6 ⟨rfl, hk6⟩; have hk8 := Bt (by assumption) hk6; dsimp only)
    | (go_at_call 12; refine (cJ.out _).mono ?_; rintro e w6 ⟨rfl, hk6⟩; have hk9 := Bt (by assumption) hk6; dsimp only)
    | (go_at_call 13; refine (cK.out _).mono ?_; rintro e w6 ⟨rfl, hk6⟩; have hk10 := Bt (by assumption) hk6; dsimp only)))
  | fail
  go_wp2_with fail
  go_ret
  exact ⟨rfl, by first | exact Bt (Bt HB0.out HB5.out) hk10 | exact Bt (Bt HB0.out HB5.out) hk9⟩
end Go.Proofs.YtndppcklpcfikaaGreatDoor
