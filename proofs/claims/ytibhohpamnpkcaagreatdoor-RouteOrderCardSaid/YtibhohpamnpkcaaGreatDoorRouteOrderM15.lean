/- The reference's Coded of chapter 10. -/
import Derived.Test.YtibhohpamnpkcaaGreatDoorRouteOrderM9
import Derived.Test.YtibhohpamnpkcaaGreatDoorRouteOrderM12
import Derived.Test.YtibhohpamnpkcaaGreatDoorRouteOrderM13
import Derived.Test.YtibhohpamnpkcaaGreatDoorRouteOrderM14

namespace Go.Proofs.YtibhohpamnpkcaaGreatDoor
open Go.RowKit

def RCodedPost (s : ByteArray) (w : World) (e : Ending) (w' : World) : Prop := Below w.heap.size w w' ∧
  ((labD s = none ∧ ∃ v, e = .returned (.tuple #[v, .bool false])) ∨ ∃ (l : List Nat) (v : Value), labD s = some l ∧ e = .returned (.tuple #[v, .bool true]) ∧ OwnN w' w.heap.size v l)
theorem body_extract (s : ByteArray) : s.extract 4 s.size = bodyS s := by
  apply ba_ext
  show (s.extract 4 s.size).data.toList = s.data.toList.drop 4
  have hl : s.data.toList.length = s.size := rfl
  rw [ByteArray.data_extract]
  simp
  exact List.take_of_length_le (by simp)
theorem head_extract {s : ByteArray} (h : 5 ≤ s.size) : ((s.extract 0 4).toList == [120, 110, 45, 45]) = Lib.hasPrefix s.data.toList xnL := by
  have hl : s.data.toList.length = s.size := rfl
  rw [ByteArray.toList_eq]
  have e : (s.extract 0 4).data.toList = s.data.toList.take 4 := by rw [ByteArray.data_extract]; simp
  rw [e]
  match hm : s.data.toList with
  | [] => rw [hm] at hl; simp at hl; omega
  | [_] => rw [hm] at hl; simp at hl; omega
  | [_, _] => rw [hm] at hl; simp at hl; omega
  | [_, _, _] => rw [hm] at hl; simp at hl; omega
  | a :: b :: c :: d :: r =>
    unfold Lib.hasPrefix xnL
    simp [List.isPrefixOf]
    rw [show (a == 120) = (120 == a) from BEq.comm, show (b == 110) = (110 == b) from BEq.comm, show (c == 45) = (45 == c) from BEq.comm, show (d == 45) = (45 == d) from BEq.comm]
theorem labD_short {s : ByteArray} (h : s.size < 5) : labD s = none := by
  cases hd : labD s with
  | none => rfl
  | some l =>
    obtain ⟨_, h2, _, _, _, h6⟩ := labD_inv hd
    have hl : s.data.toList.length = s.size := rfl
    have e : bodyS s = ⟨#[]⟩ := by
      unfold bodyS
      rw [List.drop_eq_nil_of_le (by omega)]
    rw [e] at h2
    have h0 : decE ⟨#[]⟩ = .ok [] := by kernel_rfl
    rw [h0] at h2
    cases h2
    exact absurd h6 (by decide)
theorem char_lt {c : Nat} (h : c < 128) : charZ (c : Int) = false := char_out (by unfold inSpan; omega)
theorem small_ge {c : Nat} (h : 128 ≤ c) : smallZ (c : Int) = false := decide_eq_false (by omega)
set_option maxHeartbeats 6400000 in
set_option maxRecDepth 100000 in
theorem ref10_Coded (s : ByteArray) (w : World) (hs : s.size ≤ 2000) : Calls Tryz.prog 197 #[.string s] w (RCodedPost s w) := by
  by_cases h5 : s.size < 5
  · have HV := Lib.hid (labD_short h5)
    have h5I : (s.size : Int) < 5 := by omega
    go_enter Tryz.func197, Tryz.ntmps197
    go_wp2_with fail
    go_ret2
    exact ⟨(Below.refl _ _).alloc (Nat.le_refl _) _, .inl ⟨HV.out, _, rfl⟩⟩
  have h5I : ¬ (s.size : Int) < 5 := by omega
  have h4I : (4 : Int) ≤ (s.size : Int) := by omega
  have hx := head_extract (s := s) (by omega)
  cases hp : Lib.hasPrefix s.data.toList xnL with
  | false =>
    rw [hp] at hx
    have HV := Lib.hid (labD_no hp)
    clear hp
    go_enter Tryz.func197, Tryz.ntmps197
    go_wp2_with fail
    go_ret2
    exact ⟨(Below.refl _ _).alloc (Nat.le_refl _) _, .inl ⟨HV.out, _, rfl⟩⟩
  | true =>
    rw [hp] at hx
    have hbo := body_extract s
    have HERR2 := Lib.hid (fun e (h : decE (s.extract 4 s.size) = .error e) => labD_err hp (by rw [← hbo]; exact h))
    have hok2 := fun l (h : decE (s.extract 4 s.size) = .ok l) => labD_ok hp (l := l) (by rw [← hbo]; exact h)
    have c2 := Lib.hid (fun W => ref09_Decode (s.extract 4 s.size) W (by rw [ByteArray.size_extract]; omega))
    have HF := Lib.hid (fun l h => decE_facts (s := s.extract 4 s.size) (l := l) h)
    have hcmp := fun l => str_beq (encN l) (bodyS s).data.toList
    rw [show (⟨((bodyS s).data.toList).toArray⟩ : ByteArray) = bodyS s from rfl] at hcmp
    rw [← hbo] at hok2 hcmp
    have HOK2 := Lib.hid hok2
    have HCMP := Lib.hid hcmp
    clear hp hbo hok2 hcmp h5
    go_enter Tryz.func197, Tryz.ntmps197
    go_wp2_with fail
    refine (c2.out _).mono ?_
    rintro e w3 ⟨hb3, h3⟩
    have HB3 := Lib.hid hb3
    rcases h3 with ⟨k, j, pa, pc, hE, rfl⟩ | ⟨l, v, hE, rfl, hown⟩
    · have HV := Lib.hid (HERR2.out _ hE)
      have cE := Lib.hid (ref09_Encode (.slice pa 0 pc) [] w3 (.inl ⟨rfl, pa, pc, rfl⟩) (by simp))
      clear hE hb3
      go_wp2_with fail
      refine cE.out.mono ?_
      rintro e w7 ⟨hb7, h7⟩
      have hbE := Bt HB3.out hb7
      clear hb7
      obtain ⟨x1, x2, x3, rfl⟩ : ∃ x1 x2 x3, e = .returned (.tuple #[.string x1, x2, x3]) := by
        rcases h7 with ⟨_, _, _, _, he⟩ | ⟨_, _, he⟩
        · exact ⟨_, _, _, he⟩
        · exact ⟨_, _, _, he⟩
      clear h7
      by_cases hk : k = 0
      · subst hk
        go_wp2_with fail
        go_ret2
        exact ⟨hbE.alloc hbE.size _, .inl ⟨HV.out, _, rfl⟩⟩
      · have hk1 : ((k : Int) != 0) = true := by rw [bne_iff_ne]; omega
        go_wp2_with fail
        go_ret2
        exact ⟨hbE.alloc hbE.size _, .inl ⟨HV.out, _, rfl⟩⟩
    · have hv := HOK2.out _ hE
      obtain ⟨hr, hl256⟩ := HF.out _ hE
      have HEN := Lib.hid (enc_nats hr hl256)
      have HR := Lib.hid hr
      have HO := Lib.hid hown
      obtain ⟨va, vc, rfl⟩ := row_len hown
      have cE := Lib.hid (ref09_Encode _ _ w3 hown.sl (by rw [intsN_len]; omega))
      have hcm := HCMP.out l
      clear hE hr hown hb3
      by_cases h0 : 0 < l.length
      · have HV := Lib.hid hv
        have HCM := Lib.hid hcm
        clear hv hcm
        obtain ⟨g, rfl, hc1, hc2, hc⟩ := HO.out.getD h0
        unfold maxLen at hc2
        go_wp2_with fail
        refine cE.out.mono ?_
        rintro e w7 ⟨hb7, h7⟩
        have hbE := Bt HB3.out hb7
        have HO7 := Lib.hid (HO.out.below hb7)
        rcases h7 with ⟨_, _, hE, _⟩ | ⟨T, hE, rfl⟩
        · rw [HEN.out] at hE; cases hE
        rw [HEN.out] at hE
        obtain rfl : encN l = T := by cases hE; rfl
        have hcm := HCM.out
        have HBE := Lib.hid hbE
        clear hE hb7 hbE hc
        obtain ⟨g', hg', _, _, hc⟩ := HO7.out.getD h0
        cases hg'
        have HC := Lib.hid hc
        have e0 : ((l.length : Int) == 0) = false := by rw [beq_eq_false_iff_ne]; omega
        have el : (l.length : Int) - 1 = ((l.length - 1 : Nat) : Int) := by omega
        have d0 := hc 0 h0
        have dl := hc (l.length - 1) (by omega)
        clear hc
        by_cases heq : encN l = (s.extract 4 s.size).data.toList
        · rw [decide_eq_true heq] at hcm
          by_cases a0 : l.getD 0 0 = 45
          · have b0 : (((l.getD 0 0 : Nat) : Int) == 45) = true := by rw [beq45, decide_eq_true a0]
            have hv := HV.out
            rw [if_neg (fun h => by have := h.2.2.2; rw [marks_no (fun h => h.2.1 a0)] at this; cases this)] at hv
            have HV2 := Lib.hid hv
            clear a0 heq hv
            generalize l.getD 0 0 = x0 at *
            generalize l.getD (l.length - 1) 0 = xl at *
            generalize (⟨(encN l).toArray⟩ : ByteArray) = TT at *
            go_wp2_with fail
            go_ret2
            exact ⟨HBE.out.alloc HBE.out.size _, .inl ⟨HV2.out, _, rfl⟩⟩
          have b0 : (((l.getD 0 0 : Nat) : Int) == 45) = false := by rw [beq45, decide_eq_false a0]
          by_cases a1 : l.getD (l.length - 1) 0 = 45
          · have b1 : (((l.getD (l.length - 1) 0 : Nat) : Int) == 45) = true := by rw [beq45, decide_eq_true a1]
            have hv := HV.out
            rw [if_neg (fun h => by have := h.2.2.2; rw [marks_no (fun h => h.2.2.1 a1)] at this; cases this)] at hv
            have HV2 := Lib.hid hv
            clear a0 a1 heq hv
            generalize l.getD 0 0 = x0 at *
            generalize l.getD (l.length - 1) 0 = xl at *
            generalize (⟨(encN l).toArray⟩ : ByteArray) = TT at *
            go_wp2_with fail
            go_ret2
            exact ⟨HBE.out.alloc HBE.out.size _, .inl ⟨HV2.out, _, rfl⟩⟩
          have b1 : (((l.getD (l.length - 1) 0 : Nat) : Int) == 45) = false := by rw [beq45, decide_eq_false a1]
          have HEQ := Lib.hid heq
          clear heq
          by_cases h4 : 3 < l.length
          · have h4I : (l.length : Int) > 3 := by omega
            have d2 := HC.out 2 (by omega)
            have d3 := HC.out 3 (by omega)
            by_cases a2 : l.getD 2 0 = 45
            · have b2 : (((l.getD 2 0 : Nat) : Int) == 45) = true := by rw [beq45, decide_eq_true a2]
              by_cases a3 : l.getD 3 0 = 45
              · have b3 : (((l.getD 3 0 : Nat) : Int) == 45) = true := by rw [beq45, decide_eq_true a3]
                have hv := HV.out
                rw [if_neg (fun h => by
                  have := h.2.2.2
                  rw [marks_no (fun h => by rcases h.2.2.2 with h | h | h; exact absurd h (by omega); exact h a2; exact h a3)] at this
                  cases this)] at hv
                have HV2 := Lib.hid hv
                clear hv
                clear a0 a1 a2 a3
                generalize l.getD 0 0 = x0 at *
                generalize l.getD (l.length - 1) 0 = xl at *
                generalize l.getD 2 0 = x2 at *
                generalize l.getD 3 0 = x3 at *
                generalize (⟨(encN l).toArray⟩ : ByteArray) = TT at *
                go_wp2_with fail
                go_ret2
                exact ⟨HBE.out.alloc HBE.out.size _, .inl ⟨HV2.out, _, rfl⟩⟩
              · have b3 : (((l.getD 3 0 : Nat) : Int) == 45) = false := by rw [beq45, decide_eq_false a3]
                have hv := HV.out
                have hmk : marksL l = true := marks_yes h0 a0 a1 (.inr (.inr a3))
                have HMK := Lib.hid hmk
                have HVV := Lib.hid hv
                clear hv hmk
                clear a0 a1 a2 a3
                generalize l.getD 0 0 = x0 at *
                generalize l.getD (l.length - 1) 0 = xl at *
                generalize l.getD 2 0 = x2 at *
                generalize l.getD 3 0 = x3 at *
                generalize (⟨(encN l).toArray⟩ : ByteArray) = TT at *
                go_wp2_with fail
                go_loopw [10, 11] (fun b v wr => ∃ i : Nat, i ≤ l.length ∧ v = .int .i64 i ∧ b = .bool (wideL (l.take i)) ∧ (l.take i).all mayB = true ∧ wr = w7) (fun _ v _ => l.length - (intOf v).toNat)
                case atStart => exact ⟨0, Nat.zero_le _, rfl, rfl, rfl, rfl⟩
                case round =>
                  obtain ⟨i, hil, rfl, rfl, hall, rfl⟩ := hrel
                  by_cases hlt : i < l.length
                  · have di := HC.out i hlt
                    have hws := wideL_snoc l i hlt
                    have has := allB_snoc l i hlt
                    have hnot := allB_not (l := l) (i := i) hlt
                    have hrc := HR.out (l.getD i 0) (by simp [List.getD, hlt])
                    obtain ⟨c', hc', _, hcm'⟩ := right_nat hrc
                    have hmay : mayB (l.getD i 0) = (smallZ ((l.getD i 0 : Nat) : Int) || charZ ((l.getD i 0 : Nat) : Int)) := rfl
                    have hiI : (i : Int) < (l.length : Int) := by omega
                    rw [hall, Bool.true_and] at has
                    generalize l.getD i 0 = x at *
                    have hx2 : x ≤ 1114111 := by omega
                    generalize wideL (l.take i) = wi at *
                    have HWS := Lib.hid hws
                    have HAS := Lib.hid has
                    have HNOT := Lib.hid hnot
                    have c3 := Lib.hid (fun W => ref10_small (x : Int) W (by omega) (by omega))
                    have c4 := Lib.hid (fun W => ref10_Char (x : Int) W (by omega) (by omega))
                    clear hws has hnot hrc hc' hcm' hall
                    by_cases h128 : x < 128
                    · have f1 : (x : Int) < 128 := by omega
                      have f2 : ¬ (x : Int) ≥ 128 := by omega
                      have f3 : ¬ (x : Int) > 127 := by omega
                      have hd : decide (128 ≤ x) = false := decide_eq_false (by omega)
                      rw [char_lt h128, Bool.or_false] at hmay
                      have HW2 := HWS.out
                      rw [hd, Bool.or_false] at HW2
                      have HW3 := Lib.hid HW2
                      clear HW2 HWS hd h128
                      cases hsm : smallZ (x : Int) with
                      | true =>
                        rw [hsm] at c3 hmay
                        have HA2 := HAS.out
                        rw [hmay] at HA2
                        have HAS2 := Lib.hid HA2
                        clear hsm hmay HA2
                        cases wi
                        all_goals
                          go_wp2_with fail
                          refine (c3.out _).mono ?_
                          rintro e w5 ⟨rfl, hw5⟩
                          obtain rfl := hw5
                          go_wp2_with fail
                          go_roundw
                          case rel => exact ⟨i + 1, by omega, by go_num, by first | (rw [HW3.out]; done) | (rw [HW3.out]; rfl) | (rw [HW3.out]; exact congrArg Value.bool (by simp; omega)), HAS2.out, by first | rfl | trivial⟩
                          case measure => simp [intOf]; omega
                      | false =>
                        rw [hsm] at c3 hmay
                        have hn := HNOT.out hmay
                        have hv := HVV.out
                        rw [if_neg (by rw [hn]; intro h; cases h.1)] at hv
                        have HV2 := Lib.hid hv
                        clear hsm hmay hn hv
                        go_wp2_with fail
                        refine (c3.out _).mono ?_
                        rintro e w5 ⟨rfl, hw5⟩
                        obtain rfl := hw5
                        go_wp2_with fail
                        go_ret2
                        exact ⟨HBE.out.alloc HBE.out.size _, .inl ⟨HV2.out, _, rfl⟩⟩
                    · have f1 : ¬ (x : Int) < 128 := by omega
                      have f2 : (x : Int) ≥ 128 := by omega
                      have f3 : (x : Int) > 127 := by omega
                      have hd : decide (128 ≤ x) = true := decide_eq_true (by omega)
                      rw [small_ge (by omega), Bool.false_or] at hmay
                      have HW2 := HWS.out
                      rw [hd, Bool.or_true] at HW2
                      have HW3 := Lib.hid HW2
                      clear HW2 HWS hd h128
                      cases hsm : charZ (x : Int) with
                      | true =>
                        rw [hsm] at c4 hmay
                        have HA2 := HAS.out
                        rw [hmay] at HA2
                        have HAS2 := Lib.hid HA2
                        clear hsm hmay HA2
                        cases wi
                        all_goals
                          go_wp2_with fail
                          refine (c4.out _).mono ?_
                          rintro e w5 ⟨rfl, hw5⟩
                          obtain rfl := hw5
                          go_wp2_with fail
                          go_roundw
                          case rel => exact ⟨i + 1, by omega, by go_num, by first | (rw [HW3.out]; done) | (rw [HW3.out]; rfl) | (rw [HW3.out]; exact congrArg Value.bool (by simp; omega)), HAS2.out, by first | rfl | trivial⟩
                          case measure => simp [intOf]; omega
                      | false =>
                        rw [hsm] at c4 hmay
                        have hn := HNOT.out hmay
                        have hv := HVV.out
                        rw [if_neg (by rw [hn]; intro h; cases h.1)] at hv
                        have HV2 := Lib.hid hv
                        clear hsm hmay hn hv
                        go_wp2_with fail
                        refine (c4.out _).mono ?_
                        rintro e w5 ⟨rfl, hw5⟩
                        obtain rfl := hw5
                        go_wp2_with fail
                        go_ret2
                        exact ⟨HBE.out.alloc HBE.out.size _, .inl ⟨HV2.out, _, rfl⟩⟩
                  · obtain rfl : i = l.length := by omega
                    have hiI : ¬ (l.length : Int) < (l.length : Int) := by omega
                    rw [List.take_length] at hall
                    rw [List.take_length]
                    have hv := HVV.out
                    cases hwd : wideL l with
                    | true =>
                      rw [if_pos ⟨hall, hwd, HEQ.out, HMK.out⟩] at hv
                      have HV2 := Lib.hid hv
                      clear hv hall
                      go_wp2_with fail
                      go_ret2
                      exact ⟨HBE.out, .inr ⟨l, _, HV2.out, rfl, HO7.out⟩⟩
                    | false =>
                      rw [if_neg (by rw [hwd]; intro h; cases h.2.1)] at hv
                      have HV2 := Lib.hid hv
                      clear hv hall
                      go_wp2_with fail
                      go_ret2
                      exact ⟨HBE.out, .inl ⟨HV2.out, _, rfl⟩⟩
            · have b2 : (((l.getD 2 0 : Nat) : Int) == 45) = false := by rw [beq45, decide_eq_false a2]
              have hv := HV.out
              have hmk : marksL l = true := marks_yes h0 a0 a1 (.inr (.inl a2))
              have HMK := Lib.hid hmk
              have HVV := Lib.hid hv
              clear hv hmk
              clear a0 a1 a2
              generalize l.getD 0 0 = x0 at *
              generalize l.getD (l.length - 1) 0 = xl at *
              generalize l.getD 2 0 = x2 at *
              generalize l.getD 3 0 = x3 at *
              generalize (⟨(encN l).toArray⟩ : ByteArray) = TT at *
              go_wp2_with fail
              go_loopw [10, 11] (fun b v wr => ∃ i : Nat, i ≤ l.length ∧ v = .int .i64 i ∧ b = .bool (wideL (l.take i)) ∧ (l.take i).all mayB = true ∧ wr = w7) (fun _ v _ => l.length - (intOf v).toNat)
              case atStart => exact ⟨0, Nat.zero_le _, rfl, rfl, rfl, rfl⟩
              case round =>
                obtain ⟨i, hil, rfl, rfl, hall, rfl⟩ := hrel
                by_cases hlt : i < l.length
                · have di := HC.out i hlt
                  have hws := wideL_snoc l i hlt
                  have has := allB_snoc l i hlt
                  have hnot := allB_not (l := l) (i := i) hlt
                  have hrc := HR.out (l.getD i 0) (by simp [List.getD, hlt])
                  obtain ⟨c', hc', _, hcm'⟩ := right_nat hrc
                  have hmay : mayB (l.getD i 0) = (smallZ ((l.getD i 0 : Nat) : Int) || charZ ((l.getD i 0 : Nat) : Int)) := rfl
                  have hiI : (i : Int) < (l.length : Int) := by omega
                  rw [hall, Bool.true_and] at has
                  generalize l.getD i 0 = x at *
                  have hx2 : x ≤ 1114111 := by omega
                  generalize wideL (l.take i) = wi at *
                  have HWS := Lib.hid hws
                  have HAS := Lib.hid has
                  have HNOT := Lib.hid hnot
                  have c3 := Lib.hid (fun W => ref10_small (x : Int) W (by omega) (by omega))
                  have c4 := Lib.hid (fun W => ref10_Char (x : Int) W (by omega) (by omega))
                  clear hws has hnot hrc hc' hcm' hall
                  by_cases h128 : x < 128
                  · have f1 : (x : Int) < 128 := by omega
                    have f2 : ¬ (x : Int) ≥ 128 := by omega
                    have f3 : ¬ (x : Int) > 127 := by omega
                    have hd : decide (128 ≤ x) = false := decide_eq_false (by omega)
                    rw [char_lt h128, Bool.or_false] at hmay
                    have HW2 := HWS.out
                    rw [hd, Bool.or_false] at HW2
                    have HW3 := Lib.hid HW2
                    clear HW2 HWS hd h128
                    cases hsm : smallZ (x : Int) with
                    | true =>
                      rw [hsm] at c3 hmay
                      have HA2 := HAS.out
                      rw [hmay] at HA2
                      have HAS2 := Lib.hid HA2
                      clear hsm hmay HA2
                      cases wi
                      all_goals
                        go_wp2_with fail
                        refine (c3.out _).mono ?_
                        rintro e w5 ⟨rfl, hw5⟩
                        obtain rfl := hw5
                        go_wp2_with fail
                        go_roundw
                        case rel => exact ⟨i + 1, by omega, by go_num, by first | (rw [HW3.out]; done) | (rw [HW3.out]; rfl) | (rw [HW3.out]; exact congrArg Value.bool (by simp; omega)), HAS2.out, by first | rfl | trivial⟩
                        case measure => simp [intOf]; omega
                    | false =>
                      rw [hsm] at c3 hmay
                      have hn := HNOT.out hmay
                      have hv := HVV.out
                      rw [if_neg (by rw [hn]; intro h; cases h.1)] at hv
                      have HV2 := Lib.hid hv
                      clear hsm hmay hn hv
                      go_wp2_with fail
                      refine (c3.out _).mono ?_
                      rintro e w5 ⟨rfl, hw5⟩
                      obtain rfl := hw5
                      go_wp2_with fail
                      go_ret2
                      exact ⟨HBE.out.alloc HBE.out.size _, .inl ⟨HV2.out, _, rfl⟩⟩
                  · have f1 : ¬ (x : Int) < 128 := by omega
                    have f2 : (x : Int) ≥ 128 := by omega
                    have f3 : (x : Int) > 127 := by omega
                    have hd : decide (128 ≤ x) = true := decide_eq_true (by omega)
                    rw [small_ge (by omega), Bool.false_or] at hmay
                    have HW2 := HWS.out
                    rw [hd, Bool.or_true] at HW2
                    have HW3 := Lib.hid HW2
                    clear HW2 HWS hd h128
                    cases hsm : charZ (x : Int) with
                    | true =>
                      rw [hsm] at c4 hmay
                      have HA2 := HAS.out
                      rw [hmay] at HA2
                      have HAS2 := Lib.hid HA2
                      clear hsm hmay HA2
                      cases wi
                      all_goals
                        go_wp2_with fail
                        refine (c4.out _).mono ?_
                        rintro e w5 ⟨rfl, hw5⟩
                        obtain rfl := hw5
                        go_wp2_with fail
                        go_roundw
                        case rel => exact ⟨i + 1, by omega, by go_num, by first | (rw [HW3.out]; done) | (rw [HW3.out]; rfl) | (rw [HW3.out]; exact congrArg Value.bool (by simp; omega)), HAS2.out, by first | rfl | trivial⟩
                        case measure => simp [intOf]; omega
                    | false =>
                      rw [hsm] at c4 hmay
                      have hn := HNOT.out hmay
                      have hv := HVV.out
                      rw [if_neg (by rw [hn]; intro h; cases h.1)] at hv
                      have HV2 := Lib.hid hv
                      clear hsm hmay hn hv
                      go_wp2_with fail
                      refine (c4.out _).mono ?_
                      rintro e w5 ⟨rfl, hw5⟩
                      obtain rfl := hw5
                      go_wp2_with fail
                      go_ret2
                      exact ⟨HBE.out.alloc HBE.out.size _, .inl ⟨HV2.out, _, rfl⟩⟩
                · obtain rfl : i = l.length := by omega
                  have hiI : ¬ (l.length : Int) < (l.length : Int) := by omega
                  rw [List.take_length] at hall
                  rw [List.take_length]
                  have hv := HVV.out
                  cases hwd : wideL l with
                  | true =>
                    rw [if_pos ⟨hall, hwd, HEQ.out, HMK.out⟩] at hv
                    have HV2 := Lib.hid hv
                    clear hv hall
                    go_wp2_with fail
                    go_ret2
                    exact ⟨HBE.out, .inr ⟨l, _, HV2.out, rfl, HO7.out⟩⟩
                  | false =>
                    rw [if_neg (by rw [hwd]; intro h; cases h.2.1)] at hv
                    have HV2 := Lib.hid hv
                    clear hv hall
                    go_wp2_with fail
                    go_ret2
                    exact ⟨HBE.out, .inl ⟨HV2.out, _, rfl⟩⟩
          · have h4I : ¬ (l.length : Int) > 3 := by omega
            have hv := HV.out
            have hmk : marksL l = true := marks_yes h0 a0 a1 (.inl (by omega))
            have HMK := Lib.hid hmk
            have HVV := Lib.hid hv
            clear hv hmk
            clear a0 a1
            generalize l.getD 0 0 = x0 at *
            generalize l.getD (l.length - 1) 0 = xl at *
            generalize (⟨(encN l).toArray⟩ : ByteArray) = TT at *
            go_wp2_with fail
            go_loopw [10, 11] (fun b v wr => ∃ i : Nat, i ≤ l.length ∧ v = .int .i64 i ∧ b = .bool (wideL (l.take i)) ∧ (l.take i).all mayB = true ∧ wr = w7) (fun _ v _ => l.length - (intOf v).toNat)
            case atStart => exact ⟨0, Nat.zero_le _, rfl, rfl, rfl, rfl⟩
            case round =>
              obtain ⟨i, hil, rfl, rfl, hall, rfl⟩ := hrel
              by_cases hlt : i < l.length
              · have di := HC.out i hlt
                have hws := wideL_snoc l i hlt
                have has := allB_snoc l i hlt
                have hnot := allB_not (l := l) (i := i) hlt
                have hrc := HR.out (l.getD i 0) (by simp [List.getD, hlt])
                obtain ⟨c', hc', _, hcm'⟩ := right_nat hrc
                have hmay : mayB (l.getD i 0) = (smallZ ((l.getD i 0 : Nat) : Int) || charZ ((l.getD i 0 : Nat) : Int)) := rfl
                have hiI : (i : Int) < (l.length : Int) := by omega
                rw [hall, Bool.true_and] at has
                generalize l.getD i 0 = x at *
                have hx2 : x ≤ 1114111 := by omega
                generalize wideL (l.take i) = wi at *
                have HWS := Lib.hid hws
                have HAS := Lib.hid has
                have HNOT := Lib.hid hnot
                have c3 := Lib.hid (fun W => ref10_small (x : Int) W (by omega) (by omega))
                have c4 := Lib.hid (fun W => ref10_Char (x : Int) W (by omega) (by omega))
                clear hws has hnot hrc hc' hcm' hall
                by_cases h128 : x < 128
                · have f1 : (x : Int) < 128 := by omega
                  have f2 : ¬ (x : Int) ≥ 128 := by omega
                  have f3 : ¬ (x : Int) > 127 := by omega
                  have hd : decide (128 ≤ x) = false := decide_eq_false (by omega)
                  rw [char_lt h128, Bool.or_false] at hmay
                  have HW2 := HWS.out
                  rw [hd, Bool.or_false] at HW2
                  have HW3 := Lib.hid HW2
                  clear HW2 HWS hd h128
                  cases hsm : smallZ (x : Int) with
                  | true =>
                    rw [hsm] at c3 hmay
                    have HA2 := HAS.out
                    rw [hmay] at HA2
                    have HAS2 := Lib.hid HA2
                    clear hsm hmay HA2
                    cases wi
                    all_goals
                      go_wp2_with fail
                      refine (c3.out _).mono ?_
                      rintro e w5 ⟨rfl, hw5⟩
                      obtain rfl := hw5
                      go_wp2_with fail
                      go_roundw
                      case rel => exact ⟨i + 1, by omega, by go_num, by first | (rw [HW3.out]; done) | (rw [HW3.out]; rfl) | (rw [HW3.out]; exact congrArg Value.bool (by simp; omega)), HAS2.out, by first | rfl | trivial⟩
                      case measure => simp [intOf]; omega
                  | false =>
                    rw [hsm] at c3 hmay
                    have hn := HNOT.out hmay
                    have hv := HVV.out
                    rw [if_neg (by rw [hn]; intro h; cases h.1)] at hv
                    have HV2 := Lib.hid hv
                    clear hsm hmay hn hv
                    go_wp2_with fail
                    refine (c3.out _).mono ?_
                    rintro e w5 ⟨rfl, hw5⟩
                    obtain rfl := hw5
                    go_wp2_with fail
                    go_ret2
                    exact ⟨HBE.out.alloc HBE.out.size _, .inl ⟨HV2.out, _, rfl⟩⟩
                · have f1 : ¬ (x : Int) < 128 := by omega
                  have f2 : (x : Int) ≥ 128 := by omega
                  have f3 : (x : Int) > 127 := by omega
                  have hd : decide (128 ≤ x) = true := decide_eq_true (by omega)
                  rw [small_ge (by omega), Bool.false_or] at hmay
                  have HW2 := HWS.out
                  rw [hd, Bool.or_true] at HW2
                  have HW3 := Lib.hid HW2
                  clear HW2 HWS hd h128
                  cases hsm : charZ (x : Int) with
                  | true =>
                    rw [hsm] at c4 hmay
                    have HA2 := HAS.out
                    rw [hmay] at HA2
                    have HAS2 := Lib.hid HA2
                    clear hsm hmay HA2
                    cases wi
                    all_goals
                      go_wp2_with fail
                      refine (c4.out _).mono ?_
                      rintro e w5 ⟨rfl, hw5⟩
                      obtain rfl := hw5
                      go_wp2_with fail
                      go_roundw
                      case rel => exact ⟨i + 1, by omega, by go_num, by first | (rw [HW3.out]; done) | (rw [HW3.out]; rfl) | (rw [HW3.out]; exact congrArg Value.bool (by simp; omega)), HAS2.out, by first | rfl | trivial⟩
                      case measure => simp [intOf]; omega
                  | false =>
                    rw [hsm] at c4 hmay
                    have hn := HNOT.out hmay
                    have hv := HVV.out
                    rw [if_neg (by rw [hn]; intro h; cases h.1)] at hv
                    have HV2 := Lib.hid hv
                    clear hsm hmay hn hv
                    go_wp2_with fail
                    refine (c4.out _).mono ?_
                    rintro e w5 ⟨rfl, hw5⟩
                    obtain rfl := hw5
                    go_wp2_with fail
                    go_ret2
                    exact ⟨HBE.out.alloc HBE.out.size _, .inl ⟨HV2.out, _, rfl⟩⟩
              · obtain rfl : i = l.length := by omega
                have hiI : ¬ (l.length : Int) < (l.length : Int) := by omega
                rw [List.take_length] at hall
                rw [List.take_length]
                have hv := HVV.out
                cases hwd : wideL l with
                | true =>
                  rw [if_pos ⟨hall, hwd, HEQ.out, HMK.out⟩] at hv
                  have HV2 := Lib.hid hv
                  clear hv hall
                  go_wp2_with fail
                  go_ret2
                  exact ⟨HBE.out, .inr ⟨l, _, HV2.out, rfl, HO7.out⟩⟩
                | false =>
                  rw [if_neg (by rw [hwd]; intro h; cases h.2.1)] at hv
                  have HV2 := Lib.hid hv
                  clear hv hall
                  go_wp2_with fail
                  go_ret2
                  exact ⟨HBE.out, .inl ⟨HV2.out, _, rfl⟩⟩
        · rw [decide_eq_false heq] at hcm
          have hv := HV.out
          rw [if_neg (by intro h; exact heq h.2.2.1)] at hv
          have HV2 := Lib.hid hv
          clear heq hv
          generalize l.getD 0 0 = x0 at *
          generalize l.getD (l.length - 1) 0 = xl at *
          generalize (⟨(encN l).toArray⟩ : ByteArray) = TT at *
          go_wp2_with fail
          go_ret2
          exact ⟨HBE.out.alloc HBE.out.size _, .inl ⟨HV2.out, _, rfl⟩⟩
      · obtain rfl : l = [] := List.eq_nil_of_length_eq_zero (by omega)
        rw [if_neg (by intro h; exact absurd h.2.2.2 (by decide))] at hv
        have HV2 := Lib.hid hv
        clear hv hcm
        go_wp2_with fail
        refine cE.out.mono ?_
        rintro e w7 ⟨hb7, h7⟩
        have hbE := Bt HB3.out hb7
        clear hb7
        obtain ⟨x1, x2, x3, rfl⟩ : ∃ x1 x2 x3, e = .returned (.tuple #[.string x1, x2, x3]) := by
          rcases h7 with ⟨_, _, _, _, he⟩ | ⟨_, _, he⟩
          · exact ⟨_, _, _, he⟩
          · exact ⟨_, _, _, he⟩
        clear h7
        go_wp2_with fail
        go_ret2
        exact ⟨hbE.alloc hbE.size _, .inl ⟨HV2.out, _, rfl⟩⟩
end Go.Proofs.YtibhohpamnpkcaaGreatDoor

/- The reference's Right of chapter 10. -/
namespace Go.Proofs.YtibhohpamnpkcaaGreatDoor
open Go.RowKit

theorem u8_beq45 (b : UInt8) : ((b.toNat : Int) == 45) = decide (b = 45) := by
  by_cases h : b = 45
  · subst h; rfl
  · rw [decide_eq_false h, beq_eq_false_iff_ne]
    intro e
    apply h
    apply UInt8.toNat_inj.1
    show b.toNat = 45
    omega
def RRightPost (s : ByteArray) (w : World) (e : Ending) (w' : World) : Prop := Below w.heap.size w w' ∧ e = .returned (.tuple #[.int .i64 ((rightL s).1 : Int), .int .i64 ((rightL s).2 : Int)])
set_option maxHeartbeats 6400000 in
set_option maxRecDepth 100000 in
theorem ref10_Right (s : ByteArray) (w : World) (hs : s.size ≤ 1000000) : Calls Tryz.prog 175 #[.string s] w (RRightPost s w) := by
  by_cases h0 : s.size = 0
  · have e1 : ((s.size : Int) == 0) = true := by rw [h0]; rfl
    have HR := Lib.hid (rightL_empty h0)
    clear h0
    go_enter Tryz.func175, Tryz.ntmps175
    go_wp2_with fail
    go_ret2
    exact ⟨Below.refl _ _, by rw [HR.out]; rfl⟩
  have e1 : ((s.size : Int) == 0) = false := by rw [beq_eq_false_iff_ne]; omega
  by_cases h63 : 63 < s.size
  · have hI : (s.size : Int) > 63 := by omega
    have HR := Lib.hid (rightL_long h0 h63)
    clear h0 h63
    go_enter Tryz.func175, Tryz.ntmps175
    go_wp2_with fail
    go_ret2
    exact ⟨Below.refl _ _, by rw [HR.out]; rfl⟩
  have hI : ¬ (s.size : Int) > 63 := by omega
  have HBAD := Lib.hid (fun i h => rightL_bad (s := s) (i := i) h0 h63 h)
  have HFINE := Lib.hid (fun h => rightL_fine (s := s) h0 h63 h)
  have hpos : 0 < s.size := Nat.pos_of_ne_zero h0
  have HSMN := Lib.hid (fun k => bad_next (s := s) (r := s.size - (k + 1)) (k := k))
  have HSMH := Lib.hid (fun k => bad_hit (s := s) (r := s.size - (k + 1)) (k := k))
  have cD := Lib.hid (fun W => ref10_Coded s W (by omega))
  clear h0
  go_enter Tryz.func175, Tryz.ntmps175
  go_wp2_with fail
  go_loopw [4] (fun v wr => ∃ i : Nat, i ≤ s.size ∧ v = .int .i64 i ∧ badAt s (s.size - i) i = badAt s s.size 0 ∧ wr = w) (fun v _ => s.size - (intOf v).toNat)
  case atStart => exact ⟨0, Nat.zero_le _, rfl, rfl, rfl⟩
  case round =>
    obtain ⟨i, hil, rfl, hba, rfl⟩ := hrel
    by_cases hlt : i < s.size
    · have hiI : (i : Int) < (s.size : Int) := by omega
      have hr1 : s.size - i = (s.size - (i + 1)) + 1 := by omega
      have hnx := HSMN.out i
      have hht := HSMH.out i
      rw [hr1] at hba
      have hb256 := (byteAt s i).toNat_lt
      have c3 := Lib.hid (fun W => ref10_small ((byteAt s i).toNat : Int) W (by omega) (by omega))
      rw [← str_ix hlt] at hnx hht c3 hb256
      clear hr1
      cases hsm : smallZ (s[i].toNat : Int) with
      | true =>
        rw [hsm] at c3
        have hb3 := (hnx hsm).symm.trans hba
        have HB3 := Lib.hid hb3
        clear hnx hht hsm hba hb3
        go_wp2_with fail
        refine (c3.out _).mono ?_
        rintro e w5 ⟨rfl, hw5⟩
        obtain rfl := hw5
        go_wp2_with fail
        go_roundw
        case rel => exact ⟨i + 1, by omega, by go_num, HB3.out, by first | rfl | trivial⟩
        case measure => simp [intOf]; omega
      | false =>
        rw [hsm] at c3
        have HR := Lib.hid (HBAD.out i (hba.symm.trans (hht hsm)))
        clear hnx hht hsm hba
        go_wp2_with fail
        refine (c3.out _).mono ?_
        rintro e w5 ⟨rfl, hw5⟩
        obtain rfl := hw5
        go_wp2_with fail
        go_ret2
        exact ⟨Below.refl _ _, by rw [HR.out]; rfl⟩
    · obtain rfl : i = s.size := by omega
      have hiI : ¬ (s.size : Int) < (s.size : Int) := by omega
      have hnone : badAt s s.size 0 = none := by rw [← hba, Nat.sub_self]; rfl
      have HF := Lib.hid (HFINE.out hnone)
      have hx0 := u8_beq45 (byteAt s 0)
      have hx1 := u8_beq45 (byteAt s (s.size - 1))
      rw [← str_ix hpos] at hx0
      rw [← str_ix (show s.size - 1 < s.size by omega)] at hx1
      have hfb : fineB s = (decide (byteAt s 0 ≠ 45) && decide (byteAt s (s.size - 1) ≠ 45) && (!codedB s || (labD s).isSome)) := rfl
      rw [← str_ix hpos, ← str_ix (show s.size - 1 < s.size by omega)] at hfb
      have hlI : (s.size : Int) - 1 = ((s.size - 1 : Nat) : Int) := by omega
      have hposI : (0 : Int) < (s.size : Int) := by omega
      have HFB := Lib.hid hfb
      clear hba hnone hfb
      by_cases q0 : s[0] = 45
      · have n0 : ((s[0].toNat : Int) == 45) = true := by rw [hx0]; exact decide_eq_true q0
        have hr := HF.out
        rw [HFB.out, if_neg (by simp [q0])] at hr
        have HR := Lib.hid hr
        clear hx0 hx1 q0 hr
        go_wp2_with fail
        go_ret2
        exact ⟨Below.refl _ _, by rw [HR.out]; rfl⟩
      have n0 : ((s[0].toNat : Int) == 45) = false := by rw [hx0]; exact decide_eq_false q0
      by_cases q1 : s[s.size - 1] = 45
      · have n1 : ((s[s.size - 1].toNat : Int) == 45) = true := by rw [hx1]; exact decide_eq_true q1
        have hr := HF.out
        rw [HFB.out, if_neg (by simp [q1])] at hr
        have HR := Lib.hid hr
        clear hx0 hx1 q0 q1 hr
        go_wp2_with fail
        go_ret2
        exact ⟨Below.refl _ _, by rw [HR.out]; rfl⟩
      have n1 : ((s[s.size - 1].toNat : Int) == 45) = false := by rw [hx1]; exact decide_eq_false q1
      have hr := HF.out
      rw [HFB.out, decide_eq_true q0, decide_eq_true q1, Bool.true_and, Bool.true_and] at hr
      have HR := Lib.hid hr
      clear hx0 hx1 q0 q1 hr HF HFB
      by_cases h4 : 4 ≤ s.size
      · have h4I : (s.size : Int) ≥ 4 := by omega
        have hl2 : 2 < s.size := by omega
        have hl3 : 3 < s.size := by omega
        have hl2I : (2 : Int) < (s.size : Int) := by omega
        have hl3I : (3 : Int) < (s.size : Int) := by omega
        have hx2 := u8_beq45 (byteAt s 2)
        have hx3 := u8_beq45 (byteAt s 3)
        rw [← str_ix hl2] at hx2
        rw [← str_ix hl3] at hx3
        have hcd : codedB s = decide (4 ≤ s.size ∧ byteAt s 2 = 45 ∧ byteAt s 3 = 45) := rfl
        rw [← str_ix hl2, ← str_ix hl3] at hcd
        by_cases q2 : s[2] = 45
        · have n2 : ((s[2].toNat : Int) == 45) = true := by rw [hx2]; exact decide_eq_true q2
          by_cases q3 : s[3] = 45
          · have n3 : ((s[3].toNat : Int) == 45) = true := by rw [hx3]; exact decide_eq_true q3
            rw [decide_eq_true ⟨h4, q2, q3⟩] at hcd
            rw [hcd] at HR
            clear hcd hx2 hx3 q2 q3
            go_wp2_with fail
            refine (cD.out _).mono ?_
            rintro e w6 ⟨hb6, h6⟩
            rcases h6 with ⟨hn, v, rfl⟩ | ⟨l, v, hn, rfl, _⟩
            · have hr := HR.out
              rw [hn, if_neg (by decide)] at hr
              have HR2 := Lib.hid hr
              clear hr hn
              go_wp2_with fail
              go_ret2
              exact ⟨hb6, by rw [HR2.out]; rfl⟩
            · have hr := HR.out
              rw [hn, if_pos (by rfl)] at hr
              have HR2 := Lib.hid hr
              clear hr hn
              go_wp2_with fail
              go_ret2
              exact ⟨hb6, by rw [HR2.out]; rfl⟩
          · have n3 : ((s[3].toNat : Int) == 45) = false := by rw [hx3]; exact decide_eq_false q3
            rw [decide_eq_false (fun h => q3 h.2.2)] at hcd
            have hr := HR.out
            rw [hcd, if_pos (by rfl)] at hr
            have HR2 := Lib.hid hr
            clear hcd hx2 hx3 q2 q3 hr
            go_wp2_with fail
            go_ret2
            exact ⟨Below.refl _ _, by rw [HR2.out]; rfl⟩
        · have n2 : ((s[2].toNat : Int) == 45) = false := by rw [hx2]; exact decide_eq_false q2
          rw [decide_eq_false (fun h => q2 h.2.1)] at hcd
          have hr := HR.out
          rw [hcd, if_pos (by rfl)] at hr
          have HR2 := Lib.hid hr
          clear hcd hx2 hx3 q2 hr
          go_wp2_with fail
          go_ret2
          exact ⟨Below.refl _ _, by rw [HR2.out]; rfl⟩
      · have h4I : ¬ (s.size : Int) ≥ 4 := by omega
        have hcd : codedB s = false := decide_eq_false (fun h => h4 h.1)
        have hr := HR.out
        rw [hcd, if_pos (by rfl)] at hr
        have HR2 := Lib.hid hr
        clear hcd hr
        go_wp2_with fail
        go_ret2
        exact ⟨Below.refl _ _, by rw [HR2.out]; rfl⟩
end Go.Proofs.YtibhohpamnpkcaaGreatDoor
