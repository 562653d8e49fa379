/- The walk of QuadReads. -/
import Derived.Test.YtpaeloadmjblpaaDoorQuadParse
import Derived.Test.YtpaeloadmjblpaaDoorRefQuadParse
import Derived.Test.YtpaeloadmjblpaaDoorQuadNumeric
import Derived.Test.YtpaeloadmjblpaaDoorV4Eq
import Derived.Test.YtpaeloadmjblpaaDoorHas
namespace Go.Proofs.YtpaeloadmjblpaaDoor
open Go.RowKit

theorem sq1 : parseQ ⟨#[48, 120, 55, 102, 46, 49]⟩ = (2130706433, 0, 0) := by decide +kernel
theorem sq2 : parseQ ⟨#[50, 53, 54]⟩ = (256, 0, 0) := by decide +kernel
theorem sq3 : parseQ ⟨#[49, 46, 50, 46, 51, 46, 50, 53, 54]⟩ = (0, 16, 6) := by decide +kernel
theorem v4_127 : v4N 2130706433 = .agg #[.int .u8 127, .int .u8 0, .int .u8 0, .int .u8 1] := by simp [v4N, v4]
theorem v4_256 : v4N 256 = .agg #[.int .u8 0, .int .u8 0, .int .u8 1, .int .u8 0] := by simp [v4N, v4]
theorem v4_0 : v4N 0 = .agg #[.int .u8 0, .int .u8 0, .int .u8 0, .int .u8 0] := by simp [v4N, v4]
theorem quad_Parse_right {s : ByteArray} {n : Nat} (hs : s.size ≤ 16777216) (h : parseQ s = (n, 0, 0)) (w : World) : Calls Tryd.prog 9 #[.string s] w fun e w' => e = .returned (.tuple #[v4N n, .nilIface]) ∧ Below w.heap.size w w' :=
  (quad_Parse s hs w).mono fun e w' ⟨hb, v, he, hv⟩ => by
    rw [h] at he hv
    rcases hv with ⟨_, rfl⟩ | ⟨h0, _⟩
    · exact ⟨he, hb⟩
    · exact absurd rfl h0
set_option maxHeartbeats 1600000 in
set_option maxRecDepth 100000 in
theorem speaks11 (w : World) (hg : Handle w) : Calls Tryd.prog 6 #[] w fun e w' => e = .returned (.bool true) ∧ Below w.heap.size w w' := by
  have c1 := Lib.hid (fun W => v4_127 ▸ quad_Parse_right (s := ⟨#[48, 120, 55, 102, 46, 49]⟩) (by decide) sq1 W)
  have c2 := Lib.hid (fun W => v4_256 ▸ quad_Parse_right (s := ⟨#[50, 53, 54]⟩) (by decide) sq2 W)
  have c3' : ∀ W : World, Calls Tryd.prog 9 #[.string ⟨#[49, 46, 50, 46, 51, 46, 50, 53, 54]⟩] W fun e w' => ∃ v, e = .returned (.tuple #[.agg #[.int .u8 0, .int .u8 0, .int .u8 0, .int .u8 0], v]) ∧ IsFault w' v 16 6 ∧ Below W.heap.size W w' := fun W =>
    (quad_Parse ⟨#[49, 46, 50, 46, 51, 46, 50, 53, 54]⟩ (by decide) W).mono fun e w' ⟨hb, v, he, hv⟩ => by
      rw [sq3] at he hv
      rw [v4_0] at he
      rcases hv with ⟨h0, _⟩ | ⟨_, hv⟩
      · exact absurd h0 (by decide)
      · exact ⟨v, he, hv, hb⟩
  have c3 := Lib.hid c3'
  clear c3'
  have x1 := fun W => eql_v4 127 0 0 1 127 0 0 1 W
  have x2 := fun W => eql_v4 0 0 1 0 0 0 1 0 W
  go_enter Tryd.func6, Tryd.ntmps6
  go_wp2_with fail
  refine (c1.out _).mono ?_
  rintro e w1 ⟨rfl, hb1⟩
  have hg1 := hg.below hb1
  go_wp2_with fail
  refine (c2.out _).mono ?_
  rintro e w2 ⟨rfl, hb2⟩
  have hz1 := (V4At.made w1 127 0 0 1).below hb2
  have hb12 : Below w.heap.size w w2 := Bt (hb1.alloc hb1.size _) hb2
  have hg2 := hg.below hb12
  clear hb1 hb2 hg1
  go_wp2_with fail
  refine (c3.out _).mono ?_
  rintro e w3 ⟨v, rfl, hv, hb3⟩
  have hz2 := (V4At.made w2 0 0 1 0).below hb3
  have hz3 := (hz1.below ((Below.refl _ _).alloc (Nat.le_refl _) _)).below hb3
  have hb13 : Below w.heap.size w w3 := Bt (hb12.alloc hb12.size _) hb3
  have hb3' : Below w3.heap.size w3 (w3.alloc (.cells #[.int .u8 0, .int .u8 0, .int .u8 0, .int .u8 0] 25)) := (Below.refl _ _).alloc (Nat.le_refl _) _
  have hg4 := hg.below (Bt hb13 hb3')
  have hv4 := hv.below hb3'
  have hb14 := Bt hb13 hb3'
  obtain ⟨a0, a1, a2, a3⟩ := (hz3.below hb3').cells
  obtain ⟨b0, b1, b2, b3⟩ := (hz2.below hb3').cells
  have cH := Lib.hid (fault_Has v 16 6 16 _ hv4)
  have cA := Lib.hid (fun W hg hb => fault_At_is v 16 6 .nilIface W hg (FaultIs.below hv4 hb))
  obtain ⟨q, hq⟩ := hv.ne_nil
  subst hq
  have k16 : isKind 16 16 = true := by decide
  rw [k16] at cH
  clear hz1 hz2 hz3 hb3 hb12 hg2 hv hb3' hv4 hb13 k16
  go_wp2_with fail
  refine cH.out.mono ?_
  rintro e w5 ⟨rfl, rfl⟩
  go_wp2_with fail
  refine (cA.out _ hg4 (Below.refl _ _)).mono ?_
  rintro e w6 ⟨rfl, hb6⟩
  have hb16 := Bt hb14 hb6
  go_wp2_with fail
  go_ret
  exact ⟨rfl, hb16⟩

theorem reads_long (s : ByteArray) (w : World) (hg : Handle w) (h : 600 < s.size) : Calls Tryd.prog 4 #[.string s] w fun e w' => e = .returned (.bool true) ∧ Below w.heap.size w w' := by
  go_enter Tryd.func4, Tryd.ntmps4
  go_wp2_with fail
  refine (speaks11 _ hg).mono ?_
  rintro e w1 ⟨rfl, hb1⟩
  go_wp2_with fail
  go_ret
  exact ⟨rfl, hb1⟩
set_option maxHeartbeats 3200000 in
set_option maxRecDepth 100000 in
theorem reads_walk11 (s : ByteArray) (w : World) (hg : Handle w) (h : s.size ≤ 600) : Calls Tryd.prog 4 #[.string s] w fun e w' => e = .returned (.bool true) ∧ Below w.heap.size w w' := by
  have cQ' : ∀ W : World, Calls Tryd.prog 9 #[.string s] W fun e w' => Below W.heap.size W w' ∧ ∃ v, e = .returned (.tuple #[v4N (parseQ s).1, v]) ∧ IsErrN w' v (parseQ s).2.1 (parseQ s).2.2 := fun W => quad_Parse s (by omega) W
  have cR' : ∀ W : World, Calls Tryd.prog 10 #[.string s] W fun e w' => Below W.heap.size W w' ∧ e = .returned (.tuple #[v4N (parseQ s).1, .int .i64 ((parseQ s).2.1 : Int), .int .i64 ((parseQ s).2.2 : Int)]) := fun W => ref11_Parse s (by omega) W
  have cN := Lib.hid (fun W => quad_Numeric s (by omega) W)
  have cM := Lib.hid (fun W => ref11_Numeric s (by omega) W)
  generalize numericB s = nb at *
  generalize (parseQ s).2.1 = k at *
  generalize (parseQ s).2.2 = i at *
  obtain ⟨x0, x1, x2, x3, hx⟩ : ∃ a b c d : Int, v4N (parseQ s).1 = .agg #[.int .u8 a, .int .u8 b, .int .u8 c, .int .u8 d] := ⟨_, _, _, _, rfl⟩
  rw [hx] at cQ' cR'
  clear hx
  have cQ := Lib.hid cQ'
  have cR := Lib.hid cR'
  clear cQ' cR'
  have hne : ∀ W : World, (binOp .neq 25 (.agg #[.int .u8 x0, .int .u8 x1, .int .u8 x2, .int .u8 x3]) (.agg #[.int .u8 x0, .int .u8 x1, .int .u8 x2, .int .u8 x3])).run Tryd.prog W = .ok (.bool false) W := fun W => by rw [neq_v4]; simp
  have ek : ((k : Int) != (k : Int)) = false := by simp
  have ei : ((i : Int) != (i : Int)) = false := by simp
  have en : (nb == nb) = true := by simp
  go_enter Tryd.func4, Tryd.ntmps4
  go_wp2_with fail
  refine (speaks11 _ hg).mono ?_
  rintro e w1 ⟨rfl, hb1⟩
  go_wp2_with fail
  refine (cQ.out _).mono ?_
  rintro e w2 ⟨hb2, v, rfl, hv⟩
  have hb12 := Bt hb1 hb2
  clear hb1 hb2
  go_wp2_with fail
  refine (cR.out _).mono ?_
  rintro e w3 ⟨hb3, rfl⟩
  have hz2 := (V4At.made w2 x0 x1 x2 x3).below hb3
  have hal : Below w2.heap.size w2 (w2.alloc (.cells #[.int .u8 x0, .int .u8 x1, .int .u8 x2, .int .u8 x3] 25)) := (Below.refl _ _).alloc (Nat.le_refl _) _
  have hb13 := Bt (hb12) (Bt hal hb3)
  have hal3 : Below w3.heap.size w3 (w3.alloc (.cells #[.int .u8 x0, .int .u8 x1, .int .u8 x2, .int .u8 x3] 25)) := (Below.refl _ _).alloc (Nat.le_refl _) _
  have hv4 := (hv.below (Bt hal hb3)).below hal3
  have hb14 := Bt hb13 hal3
  have hg4 := hg.below hb14
  obtain ⟨a0, a1, a2, a3⟩ := (hz2.below hal3).cells
  have cK := Lib.hid (fault_Kind v k i _ hg4 hv4.isErr)
  have cA := Lib.hid (fun W hg hb hk => fault_At v k i W hg (hv4.below (w' := W) hb).isErr hk)
  clear hz2 hal hal3 hb3 hb12 hb13 hv
  rcases hv4 with ⟨rfl, rfl⟩ | ⟨hk, hv4⟩
  · go_wp2_with fail
    refine cK.out.mono ?_
    rintro e w5 ⟨rfl, hb5⟩
    have hb15 := Bt hb14 hb5
    go_wp2_with fail
    refine (cN.out _).mono ?_
    rintro e w6 ⟨rfl, hb6⟩
    have hb16 := Bt hb15 hb6
    go_wp2_with fail
    refine (cM.out _).mono ?_
    rintro e w7 ⟨rfl, rfl⟩
    go_wp2_with fail
    go_ret
    exact ⟨rfl, hb16⟩
  · obtain ⟨q, rfl⟩ := hv4.ne_nil
    have HK := Lib.hid hk
    clear hv4 hk
    go_wp2_with fail
    refine cK.out.mono ?_
    rintro e w5 ⟨rfl, hb5⟩
    have hb15 := Bt hb14 hb5
    have hg5 := hg4.below hb5
    go_wp2_with fail
    refine (cA.out _ hg5 hb5 HK.out).mono ?_
    rintro e w6 ⟨rfl, hb6⟩
    have hb16 := Bt hb15 hb6
    go_wp2_with fail
    refine (cN.out _).mono ?_
    rintro e w7 ⟨rfl, hb7⟩
    have hb17 := Bt hb16 hb7
    go_wp2_with fail
    refine (cM.out _).mono ?_
    rintro e w8 ⟨rfl, rfl⟩
    go_wp2_with fail
    go_ret
    exact ⟨rfl, hb17⟩
theorem walkQuadReads (s : ByteArray) (w : World) (hg : Handle w) (_ : s.size ≤ maxLen) : Calls Tryd.prog 4 #[.string s] w fun e w' => e = .returned (.bool true) ∧ Below w.heap.size w w' := by
  by_cases h : s.size ≤ 600
  · exact reads_walk11 s w hg h
  · exact reads_long s w hg (by omega)
end Go.Proofs.YtpaeloadmjblpaaDoor
