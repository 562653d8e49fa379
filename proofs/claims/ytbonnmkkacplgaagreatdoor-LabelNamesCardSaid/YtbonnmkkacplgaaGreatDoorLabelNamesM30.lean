/- The reference's ASCII of chapter 10 (printed by gen_reflabelascii.py). -/
import Derived.Test.YtbonnmkkacplgaaGreatDoorLabelNamesM21
import Derived.Test.YtbonnmkkacplgaaGreatDoorLabelNamesM27
import Derived.Test.YtbonnmkkacplgaaGreatDoorLabelNamesM16

namespace Go.Proofs.YtbonnmkkacplgaaGreatDoor
open Go.RowKit

def AtIs (l : List Nat) (i pl : Nat) (a : Value) : Prop := (a = .int .i64 (-1) ∧ badC l 0 = badC (l.drop i) pl) ∨ ∃ k : Nat, a = .int .i64 (k : Int) ∧ badC l 0 = some k
def RAscPost (s : ByteArray) (w : World) (e : Ending) (w' : World) : Prop := Below w.heap.size w w' ∧
  ((∃ k i : Nat, asciiL s = .error (k, i) ∧ e = .returned (.tuple #[.string ⟨#[]⟩, .int .i64 (k : Int), .int .i64 (i : Int)])) ∨ ∃ t, asciiL s = .ok t ∧ e = .returned (.tuple #[.string t, .int .i64 0, .int .i64 0]))
theorem rchars_any {s : ByteArray} {w w' : World} {e : Ending} (h : RCharsPost s w e w') (hn : (chrs s).2 = none) : Below w.heap.size w w' ∧ ∃ v, e = .returned (.tuple #[v, .int .i64 (-1)]) ∧ OwnN w' w.heap.size v (lowC s) := by
  obtain ⟨hb, h⟩ := h
  rcases h with ⟨h1, v, rfl, hv⟩ | ⟨i, h1, _⟩
  · exact ⟨hb, v, rfl, by rw [lowC_ok h1]; exact hv⟩
  · rw [hn] at h1; cases h1
set_option maxHeartbeats 6400000 in
set_option maxRecDepth 100000 in
theorem ref10_ASCII (s : ByteArray) (w : World) (hs : s.size ≤ 100000) : Calls Tryz.prog 11 #[.string s] w (RAscPost s w) := by
  have c1 := Lib.hid (fun v W h2 => ref_Chars v s W (by omega) h2)
  have hls := lowerS_size s
  have c2 := Lib.hid (fun W => ref_Lower s W (by omega))
  have HUTF := Lib.hid (fun i h => asciiL_utf (s := s) (i := i) h)
  cases hc2 : (chrs s).2 with
  | some i =>
    have HA := Lib.hid (HUTF.out i hc2)
    have HX := Lib.hid hc2
    have hi : (i : Int) ≥ 0 := by omega
    clear hc2 hls
    go_enter Tryz.func11, Tryz.ntmps11
    go_wp2_with ((with_reducible refine wpList_bytes_sl rfl 9 32 5 _ rfl s rfl Tryz.underlying9 Tryz.underlying32 Tryz.underlying5 (by omega) ?_); intro v1 w2 hv1 hb2)
    refine (c1.out v1 w2 hv1).mono ?_
    rintro e w3 ⟨hb3, h3⟩
    have hbE := Bt hb2 hb3
    rcases h3 with ⟨hn, _⟩ | ⟨j, hn, pa, rfl⟩
    · rw [HX.out] at hn; cases hn
    · obtain rfl : i = j := by have := HX.out.symm.trans hn; cases this; rfl
      clear hn hb2 hb3 hv1
      go_wp2_with fail
      go_ret3
      exact ⟨hbE, .inl ⟨12, i, HA.out, rfl⟩⟩
  | none =>
    have hlc := lower_chrs hc2
    have c4 := Lib.hid (fun v W h2 => (ref_Chars v (lowerS s) W (by omega) h2).mono fun _ _ h => rchars_any h (by rw [hlc]))
    have HWC := Lib.hid (wide_lower hc2)
    have HWIDE := Lib.hid (fun h2 => asciiL_wide (s := s) hc2 h2)
    have HLOW := Lib.hid (fun h2 h3 => asciiL_low (s := s) hc2 h2 h3)
    have HERR := Lib.hid (fun h2 h3 => asciiL_err (s := s) hc2 h2 h3)
    have HR := Lib.hid (lowC_right (lowerS s))
    have hll := lowC_len (lowerS s)
    have HX := Lib.hid hc2
    clear hlc hc2
    generalize lowerS s = low at *
    generalize lowC low = l at *
    have HLZ := Lib.hid hll
    go_enter Tryz.func11, Tryz.ntmps11
    go_wp2_with ((with_reducible refine wpList_bytes_sl rfl 9 32 5 _ rfl s rfl Tryz.underlying9 Tryz.underlying32 Tryz.underlying5 (by omega) ?_); intro v1 w2 hv1 hb2)
    refine (c1.out v1 w2 hv1).mono ?_
    rintro e w3 ⟨hb3, h3⟩
    have HB3 := Lib.hid (Bt hb2 hb3)
    obtain ⟨v3, rfl⟩ : ∃ v3, e = .returned (.tuple #[v3, .int .i64 (-1)]) := by
      rcases h3 with ⟨_, v, he, _⟩ | ⟨j, hn, _⟩
      · exact ⟨v, he⟩
      · rw [HX.out] at hn; cases hn
    clear h3 hb2 hb3 hv1
    go_wp2_with fail
    refine (c2.out _).mono ?_
    rintro e w4 ⟨rfl, hb4⟩
    have HB4 := Lib.hid (Bt HB3.out hb4)
    clear hb4
    go_wp2_with ((with_reducible refine wpList_bytes_sl rfl 9 32 5 _ rfl low rfl Tryz.underlying9 Tryz.underlying32 Tryz.underlying5 (by omega) ?_); intro v4 w5 hv4 hb5)
    refine (c4.out v4 w5 hv4).mono ?_
    rintro e w6 ⟨hb6, v6, rfl, hown⟩
    have HB6 := Lib.hid (Bt (Bt HB4.out hb5) hb6)
    have HO := Lib.hid hown
    obtain ⟨va, vc, rfl⟩ := row_len hown
    clear hb5 hb6 hv4 hown
    go_wp2_with fail
    go_loopw [10, 11, 12, 13] (fun wd a p v wr => ∃ i pl : Nat, i ≤ l.length ∧ v = .int .i64 i ∧ wd = .bool (wideL (l.take i)) ∧ AtIs l i pl a ∧ p = .int .i64 pl ∧ pl ≤ 4 * i ∧ Below w6.heap.size w6 wr) (fun _ _ _ v _ => l.length - (intOf v).toNat)
    case atStart => exact ⟨0, 0, Nat.zero_le _, rfl, rfl, .inl ⟨rfl, rfl⟩, rfl, Nat.le_refl _, Below.refl _ _⟩
    case round =>
      obtain ⟨i, pl, hil, rfl, rfl, hat, rfl, hpl, hbr⟩ := hrel
      have HBR := Lib.hid hbr
      by_cases hlt : i < l.length
      · obtain ⟨g, rfl, hc1, hc2, hc⟩ := (HO.out.below hbr).getD (by omega)
        have di := hc i hlt
        have hws := wideL_snoc l i hlt
        have hdr := drop_getD (l := l) hlt
        have hrc := HR.out (l.getD i 0) (by simp [List.getD, hlt])
        obtain ⟨c', hc', _, hcm'⟩ := right_nat hrc
        have hmay : mayB (l.getD i 0) = (smallZ ((l.getD i 0 : Nat) : Int) || charZ ((l.getD i 0 : Nat) : Int)) := rfl
        have hiI : (i : Int) < (l.length : Int) := by omega
        have hl4 := putL_le (l.getD i 0)
        unfold maxLen at hc2
        generalize l.getD i 0 = x at *
        have hx2 : x ≤ 1114111 := by omega
        generalize wideL (l.take i) = wi at *
        have HWS := Lib.hid hws
        have HDR := Lib.hid hdr
        have c3 := Lib.hid (fun W => ref10_small (x : Int) W (by omega) (by omega))
        have c4 := Lib.hid (fun W => ref10_Char (x : Int) W (by omega) (by omega))
        have cP := Lib.hid (fun W => (ref_Put x (by omega) W).mono fun e w' ⟨h1, h2, _⟩ => (⟨h1, h2, trivial⟩ : _ ∧ _ ∧ True))
        clear hws hdr hrc hc' hcm' hc hbr
        by_cases h128 : x < 128
        · have f1 : (x : Int) < 128 := by omega
          have f3 : ¬ (x : Int) > 127 := by omega
          have hd : decide (128 ≤ x) = false := decide_eq_false (by omega)
          rw [char_lt h128, Bool.or_false] at hmay
          have HW2 := HWS.out
          rw [hd, Bool.or_false] at HW2
          have HW3 := Lib.hid HW2
          clear HW2 HWS hd h128
          rcases hat with ⟨rfl, hbc⟩ | ⟨k, rfl, hbc⟩
          · rw [HDR.out] at hbc
            cases hsm : smallZ (x : Int) with
            | true =>
              rw [hsm] at c3 hmay
              have HB := Lib.hid (hbc.trans (badC_next hmay))
              clear hsm hmay hbc
              cases wi
              all_goals
                go_wp2_with fail
                refine (c3.out _).mono ?_
                rintro e w5 ⟨rfl, hw5⟩
                obtain rfl := hw5
                go_wp2_with fail
                refine (cP.out _).mono ?_
                rintro e w6 ⟨rfl, hb6, _⟩
                have hbE := Bt HBR.out hb6
                clear hb6
                go_wp2_with fail
                go_roundw
                case rel => exact ⟨i + 1, pl + (putL x).length, by omega, by go_num, by first | (rw [HW3.out]; done) | (rw [HW3.out]; rfl) | (rw [HW3.out]; exact congrArg Value.bool (by simp; omega)), .inl ⟨rfl, HB.out⟩, by go_num, by omega, hbE⟩
                case measure => simp [intOf]; omega
            | false =>
              rw [hsm] at c3 hmay
              have HB := Lib.hid (hbc.trans (badC_hit hmay))
              clear hsm hmay hbc
              cases wi
              all_goals
                go_wp2_with fail
                refine (c3.out _).mono ?_
                rintro e w5 ⟨rfl, hw5⟩
                obtain rfl := hw5
                go_wp2_with fail
                refine (cP.out _).mono ?_
                rintro e w6 ⟨rfl, hb6, _⟩
                have hbE := Bt HBR.out hb6
                clear hb6
                go_wp2_with fail
                go_roundw
                case rel => exact ⟨i + 1, pl + (putL x).length, by omega, by go_num, by first | (rw [HW3.out]; done) | (rw [HW3.out]; rfl) | (rw [HW3.out]; exact congrArg Value.bool (by simp; omega)), .inr ⟨_, rfl, HB.out⟩, by go_num, by omega, hbE⟩
                case measure => simp [intOf]; omega
          · have hk : ¬ (k : Int) < 0 := by omega
            have HB := Lib.hid hbc
            clear hmay hbc
            cases wi
            all_goals
              go_wp2_with fail
              refine (cP.out _).mono ?_
              rintro e w6 ⟨rfl, hb6, _⟩
              have hbE := Bt HBR.out hb6
              clear hb6
              go_wp2_with fail
              go_roundw
              case rel => exact ⟨i + 1, pl + (putL x).length, by omega, by go_num, by first | (rw [HW3.out]; done) | (rw [HW3.out]; rfl) | (rw [HW3.out]; exact congrArg Value.bool (by simp; omega)), .inr ⟨_, rfl, HB.out⟩, by go_num, by omega, hbE⟩
              case measure => simp [intOf]; omega
        · have f1 : ¬ (x : Int) < 128 := by omega
          have f3 : (x : Int) > 127 := by omega
          have hd : decide (128 ≤ x) = true := decide_eq_true (by omega)
          rw [small_ge (by omega), Bool.false_or] at hmay
          have HW2 := HWS.out
          rw [hd, Bool.or_true] at HW2
          have HW3 := Lib.hid HW2
          clear HW2 HWS hd h128
          rcases hat with ⟨rfl, hbc⟩ | ⟨k, rfl, hbc⟩
          · rw [HDR.out] at hbc
            cases hsm : charZ (x : Int) with
            | true =>
              rw [hsm] at c4 hmay
              have HB := Lib.hid (hbc.trans (badC_next hmay))
              clear hsm hmay hbc
              cases wi
              all_goals
                go_wp2_with fail
                refine (c4.out _).mono ?_
                rintro e w5 ⟨rfl, hw5⟩
                obtain rfl := hw5
                go_wp2_with fail
                refine (cP.out _).mono ?_
                rintro e w6 ⟨rfl, hb6, _⟩
                have hbE := Bt HBR.out hb6
                clear hb6
                go_wp2_with fail
                go_roundw
                case rel => exact ⟨i + 1, pl + (putL x).length, by omega, by go_num, by first | (rw [HW3.out]; done) | (rw [HW3.out]; rfl) | (rw [HW3.out]; exact congrArg Value.bool (by simp; omega)), .inl ⟨rfl, HB.out⟩, by go_num, by omega, hbE⟩
                case measure => simp [intOf]; omega
            | false =>
              rw [hsm] at c4 hmay
              have HB := Lib.hid (hbc.trans (badC_hit hmay))
              clear hsm hmay hbc
              cases wi
              all_goals
                go_wp2_with fail
                refine (c4.out _).mono ?_
                rintro e w5 ⟨rfl, hw5⟩
                obtain rfl := hw5
                go_wp2_with fail
                refine (cP.out _).mono ?_
                rintro e w6 ⟨rfl, hb6, _⟩
                have hbE := Bt HBR.out hb6
                clear hb6
                go_wp2_with fail
                go_roundw
                case rel => exact ⟨i + 1, pl + (putL x).length, by omega, by go_num, by first | (rw [HW3.out]; done) | (rw [HW3.out]; rfl) | (rw [HW3.out]; exact congrArg Value.bool (by simp; omega)), .inr ⟨_, rfl, HB.out⟩, by go_num, by omega, hbE⟩
                case measure => simp [intOf]; omega
          · have hk : ¬ (k : Int) < 0 := by omega
            have HB := Lib.hid hbc
            clear hmay hbc
            cases wi
            all_goals
              go_wp2_with fail
              refine (cP.out _).mono ?_
              rintro e w6 ⟨rfl, hb6, _⟩
              have hbE := Bt HBR.out hb6
              clear hb6
              go_wp2_with fail
              go_roundw
              case rel => exact ⟨i + 1, pl + (putL x).length, by omega, by go_num, by first | (rw [HW3.out]; done) | (rw [HW3.out]; rfl) | (rw [HW3.out]; exact congrArg Value.bool (by simp; omega)), .inr ⟨_, rfl, HB.out⟩, by go_num, by omega, hbE⟩
              case measure => simp [intOf]; omega
      · obtain rfl : i = l.length := by omega
        have hiI : ¬ (l.length : Int) < (l.length : Int) := by omega
        rw [List.take_length]
        have HBW := Lib.hid (Bt HB6.out hbr)
        have HOr := Lib.hid (HO.out.below hbr)
        cases hwd : wideL l with
        | false =>
          have hwc := HWC.out
          rw [hwd] at hwc
          have HL := Lib.hid (HLOW.out hwc.symm)
          have HE := Lib.hid (show (rightL low).1 ≠ 0 → asciiL s = .error ((rightL low).1, (rightL low).2) from HERR.out hwc.symm)
          have c9 := Lib.hid (fun W => ref10_Right low W (by omega))
          clear hwc hwd hat hbr
          go_wp2_with fail
          refine (c9.out _).mono ?_
          rintro e w8 ⟨hb8, he8⟩
          have hbE := Bt HBW.out hb8
          clear hb8 c9
          generalize (rightL low).1 = k0 at *
          generalize (rightL low).2 = i0 at *
          subst he8
          by_cases hk : k0 = 0
          · subst hk
            have HA := Lib.hid (HL.out rfl)
            go_wp2_with fail
            go_ret3
            exact ⟨hbE, .inr ⟨_, HA.out, rfl⟩⟩
          · have HA := Lib.hid (HE.out hk)
            have hk1 : ((k0 : Int) != 0) = true := by rw [bne_iff_ne]; omega
            clear hk
            go_wp2_with fail
            go_ret3
            exact ⟨hbE, .inl ⟨_, _, HA.out, rfl⟩⟩
        | true =>
          have hwc := HWC.out
          rw [hwd] at hwc
          have HWI := Lib.hid (HWIDE.out hwc.symm)
          rcases hat with ⟨rfl, hbc⟩ | ⟨k, rfl, hbc⟩
          · rw [List.drop_length] at hbc
            have HBC := Lib.hid (show badC l 0 = none from hbc)
            have h0 : 0 < l.length := by
              apply Nat.pos_of_ne_zero
              intro h
              rw [List.eq_nil_of_length_eq_zero h] at hwd
              cases hwd
            obtain ⟨g, rfl, hc1, hc2, hc⟩ := HOr.out.getD h0
            unfold maxLen at hc2
            have cE := Lib.hid (fun W (h : OwnN W w5.heap.size (.slice (some ⟨g, 0, none⟩) l.length vc) l) => ref09_Encode _ _ W h.sl (by rw [intsN_len]; omega))
            have d0 := hc 0 h0
            have dl := hc (l.length - 1) (by omega)
            have el : (l.length : Int) - 1 = ((l.length - 1 : Nat) : Int) := by omega
            clear hwc hwd hbr hbc
            by_cases a0 : l.getD 0 0 = 45
            · have ba0 : (((l.getD 0 0 : Nat) : Int) == 45) = true := by rw [beq45, decide_eq_true a0]
              clear hc
              have HA := Lib.hid (HWI.out.trans (asciiW_marks HBC.out (marks_no (fun h => h.2.1 a0))))
              clear a0
              generalize l.getD 0 0 = x0 at *
              generalize l.getD (l.length - 1) 0 = xl at *
              go_wp2_with fail
              go_ret3
              exact ⟨HBW.out, .inl ⟨24, 0, HA.out, rfl⟩⟩
            · have ba0 : (((l.getD 0 0 : Nat) : Int) == 45) = false := by rw [beq45, decide_eq_false a0]
              by_cases a1 : l.getD (l.length - 1) 0 = 45
              · have ba1 : (((l.getD (l.length - 1) 0 : Nat) : Int) == 45) = true := by rw [beq45, decide_eq_true a1]
                clear hc
                have HA := Lib.hid (HWI.out.trans (asciiW_marks HBC.out (marks_no (fun h => h.2.2.1 a1))))
                clear a0 a1
                generalize l.getD 0 0 = x0 at *
                generalize l.getD (l.length - 1) 0 = xl at *
                go_wp2_with fail
                go_ret3
                exact ⟨HBW.out, .inl ⟨24, 0, HA.out, rfl⟩⟩
              · have ba1 : (((l.getD (l.length - 1) 0 : Nat) : Int) == 45) = false := by rw [beq45, decide_eq_false a1]
                by_cases h4 : 3 < l.length
                · have h4I : (l.length : Int) > 3 := by omega
                  have d2 := hc 2 (by omega)
                  have d3 := hc 3 (by omega)
                  clear hc
                  by_cases a2 : l.getD 2 0 = 45
                  · have ba2 : (((l.getD 2 0 : Nat) : Int) == 45) = true := by rw [beq45, decide_eq_true a2]
                    by_cases a3 : l.getD 3 0 = 45
                    · have ba3 : (((l.getD 3 0 : Nat) : Int) == 45) = true := by rw [beq45, decide_eq_true a3]
                      have HA := Lib.hid (HWI.out.trans (asciiW_marks HBC.out (marks_no (fun h => by rcases h.2.2.2 with h | h | h; exact absurd h (by omega); exact h a2; exact h a3))))
                      clear a0 a1 a2 a3
                      generalize l.getD 0 0 = x0 at *
                      generalize l.getD (l.length - 1) 0 = xl at *
                      generalize l.getD 2 0 = x2 at *
                      generalize l.getD 3 0 = x3 at *
                      go_wp2_with fail
                      go_ret3
                      exact ⟨HBW.out, .inl ⟨24, 0, HA.out, rfl⟩⟩
                    · have ba3 : (((l.getD 3 0 : Nat) : Int) == 45) = false := by rw [beq45, decide_eq_false a3]
                      have HM := Lib.hid (marks_yes h0 a0 a1 (.inr (.inr a3)))
                      clear a0 a1 a2 a3
                      generalize l.getD 0 0 = x0 at *
                      generalize l.getD (l.length - 1) 0 = xl at *
                      generalize l.getD 2 0 = x2 at *
                      generalize l.getD 3 0 = x3 at *
                      go_wp2_with fail
                      refine (cE.out _ HOr.out).mono ?_
                      rintro e w8 ⟨hb8, h8⟩
                      have hbE := Bt HBW.out hb8
                      clear hb8
                      rcases h8 with ⟨k, j, hE, hk, rfl⟩ | ⟨T, hE, rfl⟩
                      · have hl2 : 256 < l.length := by
                          apply Nat.lt_of_not_le
                          intro hle
                          rw [enc_nats HR.out hle] at hE
                          cases hE
                        have HA := Lib.hid (HWI.out.trans (asciiW_long HBC.out HM.out (.inl hl2)))
                        have hk1 : ((k : Int) != 0) = true := by rw [bne_iff_ne]; omega
                        clear hE hk hl2
                        go_wp2_with fail
                        go_ret3
                        exact ⟨hbE, .inl ⟨14, 63, HA.out, rfl⟩⟩
                      · have hl2 : l.length ≤ 256 := by
                          apply Nat.le_of_not_lt
                          intro hlt
                          rw [encE_long (by rw [intsN_len]; exact hlt)] at hE
                          cases hE
                        have hT : T = encN l := by
                          rw [enc_nats HR.out hl2] at hE
                          cases hE; rfl
                        have hTz : (⟨T.toArray⟩ : ByteArray).size = T.length := by show T.toArray.size = _; simp
                        have hTl := encN_len hl2 HR.out
                        have hxa := xn_app T
                        rw [← hT] at hTl
                        by_cases h59 : 59 < T.length
                        · have HA := Lib.hid (HWI.out.trans (asciiW_long HBC.out HM.out (.inr (by rw [← hT]; exact h59))))
                          have hz1 : ((⟨T.toArray⟩ : ByteArray).size : Int) > 59 := by omega
                          clear hE hT hTl hxa hTz h59 hl2
                          generalize (⟨T.toArray⟩ : ByteArray) = TT at *
                          go_wp2_with fail
                          go_ret3
                          exact ⟨hbE, .inl ⟨14, 63, HA.out, rfl⟩⟩
                        · have HA := Lib.hid (HWI.out.trans (asciiW_ok HBC.out HM.out (by rw [← hT]; omega)))
                          rw [← hT, ← hxa] at HA
                          have hz1 : ¬ ((⟨T.toArray⟩ : ByteArray).size : Int) > 59 := by omega
                          have hz2 : (⟨T.toArray⟩ : ByteArray).size ≤ 59 := by omega
                          clear hE hT hTl hxa hTz h59 hl2
                          generalize (⟨T.toArray⟩ : ByteArray) = TT at *
                          go_wp2_with fail
                          go_ret3
                          exact ⟨hbE, .inr ⟨_, HA.out, rfl⟩⟩
                  · have ba2 : (((l.getD 2 0 : Nat) : Int) == 45) = false := by rw [beq45, decide_eq_false a2]
                    have HM := Lib.hid (marks_yes h0 a0 a1 (.inr (.inl a2)))
                    clear a0 a1 a2
                    generalize l.getD 0 0 = x0 at *
                    generalize l.getD (l.length - 1) 0 = xl at *
                    generalize l.getD 2 0 = x2 at *
                    generalize l.getD 3 0 = x3 at *
                    go_wp2_with fail
                    refine (cE.out _ HOr.out).mono ?_
                    rintro e w8 ⟨hb8, h8⟩
                    have hbE := Bt HBW.out hb8
                    clear hb8
                    rcases h8 with ⟨k, j, hE, hk, rfl⟩ | ⟨T, hE, rfl⟩
                    · have hl2 : 256 < l.length := by
                        apply Nat.lt_of_not_le
                        intro hle
                        rw [enc_nats HR.out hle] at hE
                        cases hE
                      have HA := Lib.hid (HWI.out.trans (asciiW_long HBC.out HM.out (.inl hl2)))
                      have hk1 : ((k : Int) != 0) = true := by rw [bne_iff_ne]; omega
                      clear hE hk hl2
                      go_wp2_with fail
                      go_ret3
                      exact ⟨hbE, .inl ⟨14, 63, HA.out, rfl⟩⟩
                    · have hl2 : l.length ≤ 256 := by
                        apply Nat.le_of_not_lt
                        intro hlt
                        rw [encE_long (by rw [intsN_len]; exact hlt)] at hE
                        cases hE
                      have hT : T = encN l := by
                        rw [enc_nats HR.out hl2] at hE
                        cases hE; rfl
                      have hTz : (⟨T.toArray⟩ : ByteArray).size = T.length := by show T.toArray.size = _; simp
                      have hTl := encN_len hl2 HR.out
                      have hxa := xn_app T
                      rw [← hT] at hTl
                      by_cases h59 : 59 < T.length
                      · have HA := Lib.hid (HWI.out.trans (asciiW_long HBC.out HM.out (.inr (by rw [← hT]; exact h59))))
                        have hz1 : ((⟨T.toArray⟩ : ByteArray).size : Int) > 59 := by omega
                        clear hE hT hTl hxa hTz h59 hl2
                        generalize (⟨T.toArray⟩ : ByteArray) = TT at *
                        go_wp2_with fail
                        go_ret3
                        exact ⟨hbE, .inl ⟨14, 63, HA.out, rfl⟩⟩
                      · have HA := Lib.hid (HWI.out.trans (asciiW_ok HBC.out HM.out (by rw [← hT]; omega)))
                        rw [← hT, ← hxa] at HA
                        have hz1 : ¬ ((⟨T.toArray⟩ : ByteArray).size : Int) > 59 := by omega
                        have hz2 : (⟨T.toArray⟩ : ByteArray).size ≤ 59 := by omega
                        clear hE hT hTl hxa hTz h59 hl2
                        generalize (⟨T.toArray⟩ : ByteArray) = TT at *
                        go_wp2_with fail
                        go_ret3
                        exact ⟨hbE, .inr ⟨_, HA.out, rfl⟩⟩
                · have h4I : ¬ (l.length : Int) > 3 := by omega
                  clear hc
                  have HM := Lib.hid (marks_yes h0 a0 a1 (.inl (by omega)))
                  clear a0 a1
                  generalize l.getD 0 0 = x0 at *
                  generalize l.getD (l.length - 1) 0 = xl at *
                  go_wp2_with fail
                  refine (cE.out _ HOr.out).mono ?_
                  rintro e w8 ⟨hb8, h8⟩
                  have hbE := Bt HBW.out hb8
                  clear hb8
                  rcases h8 with ⟨k, j, hE, hk, rfl⟩ | ⟨T, hE, rfl⟩
                  · have hl2 : 256 < l.length := by
                      apply Nat.lt_of_not_le
                      intro hle
                      rw [enc_nats HR.out hle] at hE
                      cases hE
                    have HA := Lib.hid (HWI.out.trans (asciiW_long HBC.out HM.out (.inl hl2)))
                    have hk1 : ((k : Int) != 0) = true := by rw [bne_iff_ne]; omega
                    clear hE hk hl2
                    go_wp2_with fail
                    go_ret3
                    exact ⟨hbE, .inl ⟨14, 63, HA.out, rfl⟩⟩
                  · have hl2 : l.length ≤ 256 := by
                      apply Nat.le_of_not_lt
                      intro hlt
                      rw [encE_long (by rw [intsN_len]; exact hlt)] at hE
                      cases hE
                    have hT : T = encN l := by
                      rw [enc_nats HR.out hl2] at hE
                      cases hE; rfl
                    have hTz : (⟨T.toArray⟩ : ByteArray).size = T.length := by show T.toArray.size = _; simp
                    have hTl := encN_len hl2 HR.out
                    have hxa := xn_app T
                    rw [← hT] at hTl
                    by_cases h59 : 59 < T.length
                    · have HA := Lib.hid (HWI.out.trans (asciiW_long HBC.out HM.out (.inr (by rw [← hT]; exact h59))))
                      have hz1 : ((⟨T.toArray⟩ : ByteArray).size : Int) > 59 := by omega
                      clear hE hT hTl hxa hTz h59 hl2
                      generalize (⟨T.toArray⟩ : ByteArray) = TT at *
                      go_wp2_with fail
                      go_ret3
                      exact ⟨hbE, .inl ⟨14, 63, HA.out, rfl⟩⟩
                    · have HA := Lib.hid (HWI.out.trans (asciiW_ok HBC.out HM.out (by rw [← hT]; omega)))
                      rw [← hT, ← hxa] at HA
                      have hz1 : ¬ ((⟨T.toArray⟩ : ByteArray).size : Int) > 59 := by omega
                      have hz2 : (⟨T.toArray⟩ : ByteArray).size ≤ 59 := by omega
                      clear hE hT hTl hxa hTz h59 hl2
                      generalize (⟨T.toArray⟩ : ByteArray) = TT at *
                      go_wp2_with fail
                      go_ret3
                      exact ⟨hbE, .inr ⟨_, HA.out, rfl⟩⟩
          · have hk : (k : Int) ≥ 0 := by omega
            have HA := Lib.hid (HWI.out.trans (asciiW_bad hbc))
            clear hwc hwd hbc hbr
            go_wp2_with fail
            go_ret3
            exact ⟨HBW.out, .inl ⟨11, k, HA.out, rfl⟩⟩
end Go.Proofs.YtbonnmkkacplgaaGreatDoor
