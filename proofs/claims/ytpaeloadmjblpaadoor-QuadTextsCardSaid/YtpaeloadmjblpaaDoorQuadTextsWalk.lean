/- The walk of QuadTexts. -/
import Derived.Test.YtpaeloadmjblpaaDoorQuadReadsWalk
import Derived.Test.YtpaeloadmjblpaaDoorQuadStrict
import Derived.Test.YtpaeloadmjblpaaDoorRefQuadText
namespace Go.Proofs.YtpaeloadmjblpaaDoor
open Go.RowKit

theorem v4N_of {a b c d : Nat} (ha : a < 256) (hb : b < 256) (hc : c < 256) (hd : d < 256) : v4N (((a * 256 + b) * 256 + c) * 256 + d) = .agg #[.int .u8 (a : Int), .int .u8 (b : Int), .int .u8 (c : Int), .int .u8 (d : Int)] := by
  unfold v4N v4
  rw [show (((a * 256 + b) * 256 + c) * 256 + d) / 16777216 % 256 = a by omega, show (((a * 256 + b) * 256 + c) * 256 + d) / 65536 % 256 = b by omega, show (((a * 256 + b) * 256 + c) * 256 + d) / 256 % 256 = c by omega, show (((a * 256 + b) * 256 + c) * 256 + d) % 256 = d by omega]
theorem ref11_TextN (n : Nat) (w : World) : Calls Tryd.prog 17 #[v4N n] w fun e w' => e = .returned (.string (textN n)) ∧ Below w.heap.size w w' :=
  ref11_Text (n / 16777216 % 256) (n / 65536 % 256) (n / 256 % 256) (n % 256) (by omega) (by omega) (by omega) (by omega) w
theorem equal_same (p q r s : Int) (W : World) : (Op.equalIn 10000 25 (.agg #[.int .u8 p, .int .u8 q, .int .u8 r, .int .u8 s]) (.agg #[.int .u8 p, .int .u8 q, .int .u8 r, .int .u8 s])).run Tryd.prog W = .ok true W := by
  rw [eq_v4]; simp
theorem texts_long (x0 x1 x2 x3 : Int) (s : ByteArray) (w : World) (hg : Handle w) (h : 600 < s.size) : Calls Tryd.prog 5 #[.agg #[.int .u8 x0, .int .u8 x1, .int .u8 x2, .int .u8 x3], .string s] w fun e w' => e = .returned (.bool true) ∧ Below w.heap.size w w' := by
  have hal : Below w.heap.size w (w.alloc (.cells #[.int .u8 x0, .int .u8 x1, .int .u8 x2, .int .u8 x3] 25)) := (Below.refl _ _).alloc (Nat.le_refl _) _
  have hg1 := hg.below hal
  go_enter Tryd.func5, Tryd.ntmps5
  go_wp2_with fail
  refine (speaks11 _ hg1).mono ?_
  rintro e w1 ⟨rfl, hb1⟩
  have hb := Bt hal hb1
  go_wp2_with fail
  go_ret
  exact ⟨rfl, hb⟩
set_option maxHeartbeats 6400000 in
set_option maxRecDepth 100000 in
theorem texts_walk11 (a b c d : Nat) (ha : a < 256) (hb : b < 256) (hc : c < 256) (hd : d < 256) (s : ByteArray) (w : World) (hg : Handle w) (hs : s.size ≤ 600) : Calls Tryd.prog 5 #[.agg #[.int .u8 (a : Int), .int .u8 (b : Int), .int .u8 (c : Int), .int .u8 (d : Int)], .string s] w fun e w' => e = .returned (.bool true) ∧ Below w.heap.size w w' := by
  have hsz := text_size ha hb hc hd
  have hpt := parse_text ha hb hc hd
  have hst : strictB (textT a b c d) = true := by
    unfold strictB
    rw [hpt]
    simp only [textN_of ha hb hc hd]
    simp
  have c1 := Lib.hid (fun W => quad_Text a b c d ha hb hc hd W)
  have c2 := Lib.hid (fun W => v4N_of ha hb hc hd ▸ quad_Parse_right (s := textT a b c d) (by omega) hpt W)
  have c3' : ∀ W : World, Handle W → Calls Tryd.prog 16 #[.string (textT a b c d)] W fun e w' => e = .returned (.tuple #[.agg #[.int .u8 (a : Int), .int .u8 (b : Int), .int .u8 (c : Int), .int .u8 (d : Int)], .nilIface]) ∧ Below W.heap.size W w' := fun W hg =>
    (quad_Strict (textT a b c d) (by omega) W hg).mono fun e w' ⟨hb', h⟩ => by
      rcases h with ⟨_, he⟩ | ⟨h, _⟩
      · rw [hpt, v4N_of ha hb hc hd] at he; exact ⟨he, hb'⟩
      · rw [hst] at h; cases h
  have c3 := Lib.hid c3'
  have c4 := Lib.hid (fun W => ref11_Text a b c d ha hb hc hd W)
  have c5 := Lib.hid (fun W => numeric_text ha hb hc hd ▸ quad_Numeric (textT a b c d) (by omega) W)
  have c6 := Lib.hid (fun W hg => quad_Strict s (by omega) W hg)
  have cR' : ∀ W : World, Calls Tryd.prog 10 #[.string s] W fun e w' => Below W.heap.size W w' ∧ e = .returned (.tuple #[v4N (parseQ s).1, .int .i64 ((parseQ s).2.1 : Int), .int .i64 ((parseQ s).2.2 : Int)]) := fun W => ref11_Parse s (by omega) W
  have cT' := fun W => ref11_TextN (parseQ s).1 W
  have hsb : strictB s = (decide ((parseQ s).2.1 = 0) && decide (textN (parseQ s).1 = s)) := rfl
  have hes := equal_same
  have et : ((textT a b c d).toList == (textT a b c d).toList) = true := beq_self_eq_true _
  clear c3' hpt hst
  generalize textT a b c d = t at *
  go_enter Tryd.func5, Tryd.ntmps5
  have hal : Below w.heap.size w (w.alloc (.cells #[.int .u8 (a : Int), .int .u8 (b : Int), .int .u8 (c : Int), .int .u8 (d : Int)] 25)) := (Below.refl _ _).alloc (Nat.le_refl _) _
  have hma := V4At.made w a b c d
  have hg1 := hg.below hal
  go_wp2_with fail
  refine (speaks11 _ hg1).mono ?_
  rintro e w1 ⟨rfl, hb1⟩
  have hma1 := hma.below hb1
  have hb01 := Bt hal hb1
  clear hal hma hg1 hb1
  obtain ⟨f0, f1, f2, f3⟩ := hma1.cells
  go_wp2_with fail
  refine (c1.out _).mono ?_
  rintro e w2 ⟨rfl, hb2⟩
  have hma2 := hma1.below hb2
  have hb02 := Bt hb01 hb2
  clear hma1 hb01 hb2 f0 f1 f2 f3
  go_wp2_with fail
  refine (c2.out _).mono ?_
  rintro e w3 ⟨rfl, hb3⟩
  have hma3 := hma2.below hb3
  have hb03 := Bt hb02 hb3
  have hal3 : Below w3.heap.size w3 (w3.alloc (.cells #[.int .u8 (a : Int), .int .u8 (b : Int), .int .u8 (c : Int), .int .u8 (d : Int)] 25)) := (Below.refl _ _).alloc (Nat.le_refl _) _
  have hmx3 := V4At.made w3 a b c d
  have hg3 := hg.below (Bt hb03 hal3)
  clear hma2 hb02 hb3
  go_wp2_with fail
  refine (c3.out _ hg3).mono ?_
  rintro e w4 ⟨rfl, hb4⟩
  have hma4 := (hma3.below hal3).below hb4
  have hmx4 := hmx3.below hb4
  have hb04 := Bt hb03 (Bt hal3 hb4)
  have hal4 : Below w4.heap.size w4 (w4.alloc (.cells #[.int .u8 (a : Int), .int .u8 (b : Int), .int .u8 (c : Int), .int .u8 (d : Int)] 25)) := (Below.refl _ _).alloc (Nat.le_refl _) _
  have hmy4 := V4At.made w4 a b c d
  have hma5 := hma4.below hal4
  have hmx5 := hmx4.below hal4
  have hb05 := Bt hb04 hal4
  clear hma3 hmx3 hb03 hal3 hg3 hb4 hma4 hmx4 hb04
  obtain ⟨f0, f1, f2, f3⟩ := hma5.cells
  go_wp2_with fail
  refine (c4.out _).mono ?_
  rintro e w6 ⟨rfl, hb6⟩
  have hma6 := hma5.below hb6
  have hmx6 := hmx5.below hb6
  have hmy6 := hmy4.below hb6
  have hb06 := Bt hb05 hb6
  clear f0 f1 f2 f3 hma5 hmx5 hmy4 hb6 hal4 hb05
  obtain ⟨f0, f1, f2, f3⟩ := hma6.cells
  obtain ⟨g0, g1, g2, g3⟩ := hmx6.cells
  obtain ⟨i0, i1, i2, i3⟩ := hmy6.cells
  go_wp2_with fail
  refine (c5.out _).mono ?_
  rintro e w7 ⟨rfl, hb7⟩
  have hb07 := Bt hb06 hb7
  have hg7 := hg.below hb07
  clear f0 f1 f2 f3 g0 g1 g2 g3 i0 i1 i2 i3 hma6 hmx6 hmy6 hb7 hb06 c1 c2 c3 c4 c5
  go_wp2_with fail
  refine (c6.out _ hg7).mono ?_
  rintro e w8 ⟨hb8, h8⟩
  have hb08 := Bt hb07 hb8
  clear hb8 hb07 hg7 c6
  obtain ⟨y0, y1, y2, y3, hy⟩ : ∃ a b c d : Int, v4N (parseQ s).1 = .agg #[.int .u8 a, .int .u8 b, .int .u8 c, .int .u8 d] := ⟨_, _, _, _, rfl⟩
  rw [hy] at cR' cT' h8
  generalize textN (parseQ s).1 = tx at *
  generalize (parseQ s).2.1 = k at *
  generalize (parseQ s).2.2 = i at *
  have cR := Lib.hid cR'
  have cT := Lib.hid cT'
  clear cR' cT' hy
  rcases h8 with ⟨hok, rfl⟩ | ⟨hok, v, rfl, hv⟩
  · rw [hok] at hsb
    simp only [Bool.true_eq, Bool.and_eq_true, decide_eq_true_eq] at hsb
    obtain ⟨hk, htx⟩ := hsb
    subst hk
    subst htx
    have ets : (tx.toList == tx.toList) = true := beq_self_eq_true _
    go_wp2_with fail
    refine (cR.out _).mono ?_
    rintro e w9 ⟨hb9, rfl⟩
    have hal8 : Below w8.heap.size w8 (w8.alloc (.cells #[.int .u8 y0, .int .u8 y1, .int .u8 y2, .int .u8 y3] 25)) := (Below.refl _ _).alloc (Nat.le_refl _) _
    have hmz9 := (V4At.made w8 y0 y1 y2 y3).below hb9
    have hb09 := Bt hb08 (Bt hal8 hb9)
    have hal9 : Below w9.heap.size w9 (w9.alloc (.cells #[.int .u8 y0, .int .u8 y1, .int .u8 y2, .int .u8 y3] 25)) := (Below.refl _ _).alloc (Nat.le_refl _) _
    have hmz := hmz9.below hal9
    have hmw := V4At.made w9 y0 y1 y2 y3
    have hb10 := Bt hb09 hal9
    clear hb9 hal8 hmz9 hb09 hal9 hb08
    go_wp2_with fail
    refine (cT.out _).mono ?_
    rintro e w11 ⟨rfl, hb11⟩
    obtain ⟨f0, f1, f2, f3⟩ := (hmz.below hb11).cells
    obtain ⟨g0, g1, g2, g3⟩ := (hmw.below hb11).cells
    have hb12 := Bt hb10 hb11
    clear hmz hmw hb11 hb10
    go_wp2_with fail
    go_ret
    exact ⟨rfl, hb12⟩
  · rw [hok] at hsb
    rw [v4_0]
    have HSB := Lib.hid hsb
    clear hsb hok
    go_wp2_with fail
    refine (cR.out _).mono ?_
    rintro e w9 ⟨hb9, rfl⟩
    have hal8 : Below w8.heap.size w8 (w8.alloc (.cells #[.int .u8 0, .int .u8 0, .int .u8 0, .int .u8 0] 25)) := (Below.refl _ _).alloc (Nat.le_refl _) _
    have hmz9 := (V4At.made w8 0 0 0 0).below hb9
    have hb09 := Bt hb08 (Bt hal8 hb9)
    have hal9 : Below w9.heap.size w9 (w9.alloc (.cells #[.int .u8 y0, .int .u8 y1, .int .u8 y2, .int .u8 y3] 25)) := (Below.refl _ _).alloc (Nat.le_refl _) _
    have hmz := hmz9.below hal9
    have hb10 := Bt hb09 hal9
    have hv10 : FaultIs (w9.alloc (.cells #[.int .u8 y0, .int .u8 y1, .int .u8 y2, .int .u8 y3] 25)) v 11 0 .nilIface := ((FaultIs.below hv hal8).below hb9).below hal9
    clear hb9 hal8 hmz9 hb09 hal9 hb08 hv
    have hfin : ∀ W : World, Below (w9.alloc (.cells #[.int .u8 y0, .int .u8 y1, .int .u8 y2, .int .u8 y3] 25)).heap.size (w9.alloc (.cells #[.int .u8 y0, .int .u8 y1, .int .u8 y2, .int .u8 y3] 25)) W → FaultIs W v 11 0 .nilIface ∧ V4At W w8.heap.size #[.int .u8 0, .int .u8 0, .int .u8 0, .int .u8 0] ∧ Handle W ∧ Below w.heap.size w W := fun W hW => ⟨hv10.below hW, hmz.below hW, hg.below (Bt hb10 hW), Bt hb10 hW⟩
    have HFIN := Lib.hid hfin
    obtain ⟨q, hq⟩ := hv10.ne_nil
    clear hv10 hmz hb10 hfin
    by_cases hk : k = 0
    · subst hk
      have htx : tx ≠ s := by simpa using HSB.out
      have ets : (tx.toList == s.toList) = false := by rw [str_eqB, decide_eq_false htx]
      clear HSB htx
      subst hq
      go_wp2_with fail
      refine (cT.out _).mono ?_
      rintro e w11 ⟨rfl, hb11⟩
      obtain ⟨hv11, _, hg11, _⟩ := HFIN.out _ hb11
      go_wp2_with fail
      refine (fault_Kind_is _ 11 0 .nilIface _ hg11 hv11).mono ?_
      rintro e w12 ⟨rfl, hb12⟩
      have hb12' := Bt hb11 hb12
      obtain ⟨hv12, _, hg12, _⟩ := HFIN.out _ hb12'
      go_wp2_with fail
      refine (fault_At_is _ 11 0 .nilIface _ hg12 hv12).mono ?_
      rintro e w13 ⟨rfl, hb13⟩
      obtain ⟨_, hz13, _, hbz⟩ := HFIN.out _ (Bt hb12' hb13)
      obtain ⟨f0, f1, f2, f3⟩ := hz13.cells
      clear hv11 hg11 hb11 hb12 hb12' hv12 hg12 hb13 hz13
      go_wp2_with fail
      go_ret
      exact ⟨rfl, hbz⟩
    · have ek : ((k : Int) == 0) = false := by rw [beq_eq_false_iff_ne]; omega
      clear HSB hk
      subst hq
      obtain ⟨hv11, _, hg11, _⟩ := HFIN.out _ (Below.refl _ _)
      go_wp2_with fail
      refine (fault_Kind_is _ 11 0 .nilIface _ hg11 hv11).mono ?_
      rintro e w12 ⟨rfl, hb12⟩
      obtain ⟨hv12, _, hg12, _⟩ := HFIN.out _ hb12
      go_wp2_with fail
      refine (fault_At_is _ 11 0 .nilIface _ hg12 hv12).mono ?_
      rintro e w13 ⟨rfl, hb13⟩
      obtain ⟨_, hz13, _, hbz⟩ := HFIN.out _ (Bt hb12 hb13)
      obtain ⟨f0, f1, f2, f3⟩ := hz13.cells
      clear hv11 hg11 hb12 hv12 hg12 hb13 hz13
      go_wp2_with fail
      go_ret
      exact ⟨rfl, hbz⟩

theorem u8_nat {x : Int} (h : (Lit.int .u8 x).wf = true) : ∃ n : Nat, n < 256 ∧ x = (n : Int) := by
  simp [Lit.wf, IntKind.min, IntKind.max, IntKind.signed, IntKind.bits] at h
  exact ⟨x.toNat, by omega, by omega⟩
theorem walkQuadTexts (x0 x1 x2 x3 : Int) (s : ByteArray) (w : World) (hg : Handle w) (h0 : (Lit.int .u8 x0).wf = true) (h1 : (Lit.int .u8 x1).wf = true) (h2 : (Lit.int .u8 x2).wf = true) (h3 : (Lit.int .u8 x3).wf = true) (_ : s.size ≤ maxLen) : Calls Tryd.prog 5 #[.agg #[.int .u8 x0, .int .u8 x1, .int .u8 x2, .int .u8 x3], .string s] w fun e w' => e = .returned (.bool true) ∧ Below w.heap.size w w' := by
  by_cases h : s.size ≤ 600
  · obtain ⟨a, ha, rfl⟩ := u8_nat h0
    obtain ⟨b, hb, rfl⟩ := u8_nat h1
    obtain ⟨c, hc, rfl⟩ := u8_nat h2
    obtain ⟨d, hd, rfl⟩ := u8_nat h3
    exact texts_walk11 a b c d ha hb hc hd s w hg h
  · exact texts_long x0 x1 x2 x3 s w hg (by omega)
end Go.Proofs.YtpaeloadmjblpaaDoor
