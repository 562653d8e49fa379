/- label.decode. -/
import Derived.Test.YtbonnmkkacplgaaGreatDoorLabelNamesM12
import Derived.Test.YtbonnmkkacplgaaGreatDoorLabelNamesM14
import Derived.Test.YtbonnmkkacplgaaGreatDoorLabelNamesM7
import Derived.Test.YtbonnmkkacplgaaGreatDoorLabelNamesM4
import Derived.Test.YtbonnmkkacplgaaGreatDoorLabelNamesM2
import Derived.Test.YtbonnmkkacplgaaGreatDoorLabelNamesM1

namespace Go.Proofs.YtbonnmkkacplgaaGreatDoor
open Go.RowKit

def LDecPost (s : ByteArray) (w : World) (e : Ending) (w' : World) : Prop := Below w.heap.size w w' ∧
  ((labD s = none ∧ e = .returned (.tuple #[.slice none 0 0, .bool false])) ∨ ∃ (l : List Nat) (v : Value), labD s = some l ∧ e = .returned (.tuple #[v, .bool true]) ∧ OwnN w' w.heap.size v l)
theorem wideL_snoc (l : List Nat) (i : Nat) (h : i < l.length) : wideL (l.take (i + 1)) = (wideL (l.take i) || decide (128 ≤ l.getD i 0)) := by
  have e : l.take (i + 1) = l.take i ++ [l.getD i 0] := by rw [List.take_succ_eq_append_getElem h]; simp [List.getD, h]
  unfold wideL
  rw [e, List.any_append]
  simp
theorem allB_snoc (l : List Nat) (i : Nat) (h : i < l.length) : (l.take (i + 1)).all mayB = ((l.take i).all mayB && mayB (l.getD i 0)) := by
  have e : l.take (i + 1) = l.take i ++ [l.getD i 0] := by rw [List.take_succ_eq_append_getElem h]; simp [List.getD, h]
  rw [e, List.all_append]
  simp
theorem allB_not {l : List Nat} {i : Nat} (h : i < l.length) (h2 : mayB (l.getD i 0) = false) : l.all mayB = false := by
  cases ha : l.all mayB with
  | false => rfl
  | true =>
    have := List.all_eq_true.1 ha (l.getD i 0) (by simp [List.getD, h])
    rw [h2] at this
    cases this
theorem str_beq (a b : List UInt8) : ((⟨a.toArray⟩ : ByteArray).toList == (⟨b.toArray⟩ : ByteArray).toList) = decide (a = b) := by
  rw [ByteArray.toList_eq, ByteArray.toList_eq]
  show (a == b) = _
  by_cases h : a = b
  · subst h; simp
  · rw [decide_eq_false h]; simpa using h
set_option maxHeartbeats 6400000 in
set_option maxRecDepth 100000 in
theorem label_decode (s : ByteArray) (w : World) (hS : SpanLaid w) (hs : s.size ≤ 1000000) : Calls Tryz.prog 44 #[.string s] w (LDecPost s w) := by
  have cC := Lib.hid (fun W => Tryz.strings_CutPrefix s ⟨#[120, 110, 45, 45]⟩ W)
  have hno := labD_no (s := s)
  have herr := fun e h => labD_err (s := s) (e := e) h
  have hok := fun l h => labD_ok (s := s) (l := l) h
  have HNO := Lib.hid hno
  have HERR := Lib.hid herr
  have HOK := Lib.hid hok
  have hx : (⟨#[120, 110, 45, 45]⟩ : ByteArray).data.toList = xnL := rfl
  rw [hx] at cC
  clear hno herr hok hx
  cases hp : Lib.hasPrefix s.data.toList xnL with
  | false =>
    have HV := Lib.hid (HNO.out hp)
    rw [hp] at cC
    have c2 := Lib.hid (fun t W => puny_Decode t W)
    generalize Lib.trimPrefix s.data.toList xnL = tp at *
    clear hp
    go_enter Tryz.func44, Tryz.ntmps44
    go_wp2_with fail
    refine (cC.out _).mono ?_
    rintro e w2 ⟨rfl, hw2⟩
    obtain rfl := hw2.symm
    go_wp2_with fail
    refine (c2.out _ _).mono ?_
    rintro e w3 ⟨hb3, h3⟩
    obtain ⟨v1, v2, rfl⟩ : ∃ v1 v2, e = .returned (.tuple #[v1, v2]) := by
      rcases h3 with ⟨_, _, v, _, _, he, _⟩ | ⟨_, v, _, he, _⟩
      · exact ⟨_, _, he⟩
      · exact ⟨_, _, he⟩
    clear h3
    go_wp2_with fail
    go_ret2
    exact ⟨hb3, .inl ⟨HV.out, rfl⟩⟩
  | true =>
    have htp : (⟨(Lib.trimPrefix s.data.toList xnL).toArray⟩ : ByteArray) = bodyS s := by
      have : Lib.trimPrefix s.data.toList xnL = s.data.toList.drop 4 := by
        unfold Lib.trimPrefix
        rw [if_pos hp]
        rfl
      rw [this]
      rfl
    rw [hp, htp] at cC
    have HERR2 := Lib.hid (fun e h => HERR.out e hp h)
    have HOK2 := Lib.hid (fun l h => HOK.out l hp h)
    have hbo : bodyS s = ⟨((bodyS s).data.toList).toArray⟩ := rfl
    have c2 := Lib.hid (fun W => puny_Decode (bodyS s) W)
    have hfacts := fun l h => decE_facts (s := bodyS s) (l := l) h
    have HF := Lib.hid hfacts
    have hcmp := fun l => str_beq (encN l) (bodyS s).data.toList
    rw [← hbo] at hcmp
    have HCMP := Lib.hid hcmp
    clear hp htp hbo hfacts HNO HERR HOK hcmp
    generalize bodyS s = B at *
    go_enter Tryz.func44, Tryz.ntmps44
    go_wp2_with fail
    refine (cC.out _).mono ?_
    rintro e w2 ⟨rfl, hw2⟩
    obtain rfl := hw2.symm
    go_wp2_with fail
    refine (c2.out _).mono ?_
    rintro e w3 ⟨hb3, h3⟩
    have HB3 := Lib.hid hb3
    rcases h3 with ⟨k, j, v, hE, hk, rfl, hv⟩ | ⟨l, v, hE, rfl, hown⟩
    · have HV := Lib.hid (HERR2.out _ hE)
      obtain ⟨p, rfl⟩ := hv.ne_nil
      clear hE hv hk
      go_wp2_with fail
      go_ret2
      exact ⟨HB3.out, .inl ⟨HV.out, rfl⟩⟩
    · have HV := Lib.hid (HOK2.out _ hE)
      obtain ⟨hr, hl256⟩ := HF.out _ hE
      have hen := enc_nats hr hl256
      have HEN := Lib.hid hen
      have HR := Lib.hid hr
      have hS3 := hS.below hb3
      have HO := Lib.hid hown
      obtain ⟨va, vc, rfl⟩ := row_len hown
      clear hE hr hen hown hb3
      go_wp2_with fail
      go_loopw [8, 31] (fun b v wr => ∃ i : Nat, i ≤ l.length ∧ v = .int .i64 i ∧ b = .bool (wideL (l.take i)) ∧ (l.take i).all mayB = true ∧ Below w3.heap.size w3 wr) (fun _ v _ => l.length - (intOf v).toNat)
      case atStart => exact ⟨0, Nat.zero_le _, rfl, rfl, rfl, Below.refl _ _⟩
      case round =>
        obtain ⟨i, hil, rfl, rfl, hall, hbr⟩ := hrel
        have HBR := Lib.hid hbr
        by_cases hlt : i < l.length
        · obtain ⟨g, rfl, hc1, hc2, hc⟩ := (HO.out.below hbr).getD (by omega)
          have d0 := hc i hlt
          have hws := wideL_snoc l i hlt
          have has := allB_snoc l i hlt
          have hnot := allB_not (l := l) (i := i) hlt
          have hrc := HR.out (l.getD i 0) (by simp [List.getD, hlt])
          obtain ⟨c', hc', _, hcm⟩ := right_nat hrc
          have hSr := hS3.below hbr
          have hmay : mayB (l.getD i 0) = (smallZ ((l.getD i 0 : Nat) : Int) || charZ ((l.getD i 0 : Nat) : Int)) := rfl
          have hiI : (i : Int) < (l.length : Int) := by omega
          unfold maxLen at hc2
          rw [hall, Bool.true_and] at has
          generalize l.getD i 0 = x at *
          have hx2 : x ≤ 1114111 := by omega
          generalize wideL (l.take i) = wi at *
          have HWS := Lib.hid hws
          have HAS := Lib.hid has
          have HNOT := Lib.hid hnot
          have c3 := Lib.hid (fun W => label_small (x : Int) W (by omega) (by omega))
          have c4 := Lib.hid (fun W h => label_Char (x : Int) W h (by omega) (by omega))
          clear hws has hnot hrc hc' hcm hc hall hbr
          have hbit : ∃ b2, decide (128 ≤ x) = b2 ∧ (b2 = true → (x : Int) ≥ 128) ∧ (b2 = false → ¬ (x : Int) ≥ 128) := ⟨_, rfl, fun h => by have := of_decide_eq_true h; omega, fun h => by have := of_decide_eq_false h; omega⟩
          obtain ⟨b2, hb2, hb3, hb4⟩ := hbit
          rw [hb2] at HWS
          clear hb2
          cases hsm : smallZ (x : Int) with
          | true =>
            rw [hsm] at c3 hmay
            rw [hmay] at HAS
            have HAS2 := Lib.hid (show (l.take (i + 1)).all mayB = true by rw [HAS.out]; simp)
            clear hsm hmay
            cases b2
            all_goals
              first
                | (have h128 := hb3 rfl)
                | (have h128 := hb4 rfl)
              clear hb3 hb4
              cases wi
              all_goals
                go_wp2_with fail
                refine (c3.out _).mono ?_
                rintro e w5 ⟨rfl, hw5⟩
                obtain rfl := hw5
                go_wp2_with fail
                go_roundw
                case rel => exact ⟨i + 1, by omega, by go_num, by first | (rw [HWS.out]; rfl) | (rw [HWS.out]; exact congrArg Value.bool (by simp; omega)), HAS2.out, HBR.out⟩
                case measure => simp [intOf]; omega
          | false =>
            rw [hsm] at c3 hmay
            cases hch : charZ (x : Int) with
            | false =>
              rw [hch] at c4 hmay
              have hn := HNOT.out hmay
              have hv := HV.out
              rw [if_neg (by rw [hn]; intro h; cases h.1)] at hv
              have HV2 := Lib.hid hv
              clear hsm hch hmay hn hv
              go_wp2_with fail
              refine (c3.out _).mono ?_
              rintro e w5 ⟨rfl, hw5⟩
              obtain rfl := hw5
              go_wp2_with fail
              refine (c4.out _ hSr).mono ?_
              rintro e w6 ⟨rfl, hb6⟩
              have hbE := Bt (Bt HB3.out HBR.out) hb6
              go_wp2_with fail
              go_ret2
              exact ⟨hbE, .inl ⟨HV2.out, rfl⟩⟩
            | true =>
              rw [hch] at c4 hmay
              rw [hmay] at HAS
              have HAS2 := Lib.hid (show (l.take (i + 1)).all mayB = true by rw [HAS.out]; simp)
              clear hsm hch hmay
              cases b2
              all_goals
                first
                  | (have h128 := hb3 rfl)
                  | (have h128 := hb4 rfl)
                clear hb3 hb4
                cases wi
                all_goals
                  go_wp2_with fail
                  refine (c3.out _).mono ?_
                  rintro e w5 ⟨rfl, hw5⟩
                  obtain rfl := hw5
                  go_wp2_with fail
                  refine (c4.out _ hSr).mono ?_
                  rintro e w6 ⟨rfl, hb6⟩
                  have hbE := Bt HBR.out hb6
                  go_wp2_with fail
                  go_roundw
                  case rel => exact ⟨i + 1, by omega, by go_num, by first | (rw [HWS.out]; rfl) | (rw [HWS.out]; exact congrArg Value.bool (by simp; omega)), HAS2.out, hbE⟩
                  case measure => simp [intOf]; omega
        · obtain rfl : i = l.length := by omega
          have hiI : ¬ (l.length : Int) < (l.length : Int) := by omega
          rw [List.take_length] at hall
          have hv := HV.out
          have HOr := Lib.hid (HO.out.below hbr)
          have cE := Lib.hid (puny_Encode _ _ wr HOr.out.sl (by rw [intsN_len]; omega))
          have cM := Lib.hid (fun W (base : Nat) (h : OwnN W base (.slice va l.length vc) l) => label_marks va vc base l W h (by omega))
          have hcm := HCMP.out l
          rw [List.take_length]
          generalize hwd : wideL l = wd at *
          generalize hmk : marksL l = mk at *
          clear hwd hmk
          cases wd with
          | false =>
            rw [if_neg (by intro h; cases h.2.1)] at hv
            have HV2 := Lib.hid hv
            clear hv hcm hall hbr
            go_wp2_with fail
            refine cE.out.mono ?_
            rintro e w7 ⟨hb7, h7⟩
            have hbE := Bt (Bt HB3.out HBR.out) hb7
            rcases h7 with ⟨_, _, _, hE, _⟩ | ⟨T, hE, rfl⟩
            · rw [HEN.out] at hE; cases hE
            clear hE
            go_wp2_with fail
            go_ret2
            exact ⟨hbE, .inl ⟨HV2.out, rfl⟩⟩
          | true =>
            have HCM := Lib.hid hcm
            have HVV := Lib.hid hv
            have HALL := Lib.hid hall
            clear hv hcm hall hbr
            go_wp2_with fail
            refine cE.out.mono ?_
            rintro e w7 ⟨hb7, h7⟩
            have hbE := Bt (Bt HB3.out HBR.out) hb7
            have HO7 := Lib.hid (HOr.out.below hb7)
            rcases h7 with ⟨_, _, _, hE, _⟩ | ⟨T, hE, rfl⟩
            · rw [HEN.out] at hE; cases hE
            rw [HEN.out] at hE
            obtain rfl : encN l = T := by cases hE; rfl
            have hcm := HCM.out
            have HBE := Lib.hid hbE
            clear hE hb7 hbE
            by_cases heq : encN l = B.data.toList
            · have hv := HVV.out
              rw [decide_eq_true heq] at hcm
              cases mk with
              | false =>
                rw [if_neg (by intro h; cases h.2.2.2)] at hv
                have HV2 := Lib.hid hv
                clear hv heq
                generalize (⟨(encN l).toArray⟩ : ByteArray) = TT at *
                go_wp2_with fail
                refine (cM.out _ _ HO7.out).mono ?_
                rintro e w8 ⟨rfl, hw8⟩
                obtain rfl := hw8
                go_wp2_with fail
                go_ret2
                exact ⟨HBE.out, .inl ⟨HV2.out, rfl⟩⟩
              | true =>
                rw [if_pos ⟨HALL.out, by first | rfl | trivial, heq, by first | rfl | trivial⟩] at hv
                have HV2 := Lib.hid hv
                clear hv heq
                generalize (⟨(encN l).toArray⟩ : ByteArray) = TT at *
                go_wp2_with fail
                refine (cM.out _ _ HO7.out).mono ?_
                rintro e w8 ⟨rfl, hw8⟩
                obtain rfl := hw8
                go_wp2_with fail
                go_ret2
                exact ⟨HBE.out, .inr ⟨l, _, HV2.out, rfl, HO7.out⟩⟩
            · have hv := HVV.out
              rw [decide_eq_false heq] at hcm
              rw [if_neg (by intro h; exact heq h.2.2.1)] at hv
              have HV2 := Lib.hid hv
              clear hv heq
              generalize (⟨(encN l).toArray⟩ : ByteArray) = TT at *
              go_wp2_with fail
              go_ret2
              exact ⟨HBE.out, .inl ⟨HV2.out, rfl⟩⟩
end Go.Proofs.YtbonnmkkacplgaaGreatDoor

/- label.Right. -/
namespace Go.Proofs.YtbonnmkkacplgaaGreatDoor
open Go.RowKit

/-- An error of a kind at a place that came from no other; 0: none. -/
def IsE (w : World) (v : Value) (k i : Nat) : Prop := (k = 0 ∧ v = .nilIface) ∨ (k ≠ 0 ∧ IsFault w v k i)
theorem IsE.below {w w' : World} {v : Value} {k i : Nat} (h : IsE w v k i) (hb : Below w.heap.size w w') : IsE w' v k i := by
  rcases h with h | ⟨h, h2⟩
  · exact .inl h
  · exact .inr ⟨h, FaultIs.below h2 hb⟩
theorem IsE.err {w : World} {v : Value} {k i : Nat} (h : IsE w v k i) : IsErr w v k i := by
  rcases h with h | ⟨h, h2⟩
  · exact .inl h
  · exact .inr ⟨h, _, h2⟩
def LRightPost (s : ByteArray) (w : World) (e : Ending) (w' : World) : Prop := Below w.heap.size w w' ∧ ∃ v, e = .returned v ∧ IsE w' v (rightL s).1 (rightL s).2
theorem badAt_lt (s : ByteArray) : ∀ r k i, badAt s r k = some i → k ≤ i ∧ i < k + r := by
  intro r
  induction r with
  | zero => intro k i h; cases h
  | succ r ih =>
    intro k i h
    cases hs : smallZ ((byteAt s k).toNat : Int) with
    | true => rw [bad_next hs] at h; have := ih _ _ h; omega
    | false => rw [bad_hit hs] at h; cases h; omega
theorem u8_bne (b : UInt8) : ((b.toNat : Int) != 45) = decide (b ≠ 45) := by
  by_cases h : b = 45
  · subst h; rfl
  · rw [decide_eq_true h, bne_iff_ne]
    intro e
    apply h
    apply UInt8.toNat_inj.1
    show b.toNat = 45
    omega
theorem str_ix {s : ByteArray} {k : Nat} (h : k < s.size) : s[k] = byteAt s k := by simp [byteAt, List.getD, h]; rfl
set_option maxHeartbeats 6400000 in
set_option maxRecDepth 100000 in
theorem label_Right (s : ByteArray) (w : World) (hS : SpanLaid w) (hs : s.size ≤ 1000000) : Calls Tryz.prog 13 #[.string s] w (LRightPost s w) := by
  by_cases h0 : s.size = 0
  · have e0 := isEmpty_yes h0
    have e1 : (s.toList == []) = true := by rw [List.isEmpty_iff] at e0; rw [e0]; rfl
    have HR := Lib.hid (rightL_empty h0)
    clear h0
    go_enter Tryz.func13, Tryz.ntmps13
    go_wp2_with fail
    refine (api_Fail' 10 0 _).mono ?_
    rintro e w2 ⟨v, rfl, hv, hb⟩
    go_wp2_with fail
    go_ret
    exact ⟨hb, v, rfl, by rw [HR.out]; exact .inr ⟨by decide, hv⟩⟩
  have e0 := isEmpty_no (Nat.pos_of_ne_zero h0)
  have e1 : (s.toList == []) = false := by
    cases hl : s.toList with
    | nil => rw [hl] at e0; cases e0
    | cons a l => rfl
  by_cases h63 : 63 < s.size
  · have hI : (s.size : Int) > 63 := by omega
    have HR := Lib.hid (rightL_long h0 h63)
    clear h0 h63
    go_enter Tryz.func13, Tryz.ntmps13
    go_wp2_with fail
    refine (api_Fail' 14 63 _).mono ?_
    rintro e w2 ⟨v, rfl, hv, hb⟩
    go_wp2_with fail
    go_ret
    exact ⟨hb, v, rfl, by rw [HR.out]; exact .inr ⟨by decide, hv⟩⟩
  have hI : ¬ (s.size : Int) > 63 := by omega
  have hbad := fun i h => rightL_bad (s := s) (i := i) h0 h63 h
  have hfine := fun h => rightL_fine (s := s) h0 h63 h
  have HBAD := Lib.hid hbad
  have HFINE := Lib.hid hfine
  have hpos : 0 < s.size := Nat.pos_of_ne_zero h0
  have HSMN := Lib.hid (fun k => bad_next (s := s) (r := s.size - (k + 1)) (k := k))
  have HSMH := Lib.hid (fun k => bad_hit (s := s) (r := s.size - (k + 1)) (k := k))
  have cD := Lib.hid (fun W h => label_decode s W h hs)
  have cC := Lib.hid (fun W => label_coded s W hs)
  clear hbad hfine h0
  go_enter Tryz.func13, Tryz.ntmps13
  go_wp2_with ((with_reducible refine wpList_bytes (o := ⟨some 16, _, _, _, _, _⟩) rfl 9 32 5 _ rfl s rfl Tryz.underlying9 Tryz.underlying32 Tryz.underlying5 ?_); intro cap w2 hcap hB hb2 hsz2)
  have HB2 := Lib.hid hb2
  have hS2 := hS.below hb2
  have HBY := Lib.hid hB
  have hg2 : w.heap.size < w2.heap.size := by omega
  clear hb2 hB hsz2
  go_loopw [18] (fun v wr => ∃ i : Nat, i ≤ s.size ∧ v = .int .i64 i ∧ badAt s (s.size - i) i = badAt s s.size 0 ∧ Below w2.heap.size w2 wr) (fun v _ => s.size - (intOf v).toNat)
  case atStart => exact ⟨0, Nat.zero_le _, rfl, rfl, Below.refl _ _⟩
  case round =>
    obtain ⟨i, hil, rfl, hba, hbr⟩ := hrel
    have HBR := Lib.hid hbr
    by_cases hlt : i < s.size
    · have hc := (HBY.out.below hbr hg2).byte hlt
      have hiI : (i : Int) < (s.size : Int) := by omega
      have hr1 : s.size - i = (s.size - (i + 1)) + 1 := by omega
      have hnx := HSMN.out i
      have hht := HSMH.out i
      rw [hr1] at hba
      have c3 := Lib.hid (fun W => label_small ((byteAt s i).toNat : Int) W (by omega) (by have := (byteAt s i).toNat_lt; omega))
      have hb256 := (byteAt s i).toNat_lt
      generalize byteAt s i = x at *
      clear hbr hr1
      cases hsm : smallZ (x.toNat : Int) with
      | true =>
        rw [hsm] at c3
        have hb3 := (hnx hsm).symm.trans hba
        have HB3 := Lib.hid hb3
        clear hnx hht hsm hba hb3
        go_wp2_with fail
        refine (c3.out _).mono ?_
        rintro e w5 ⟨rfl, hw5⟩
        obtain rfl := hw5
        go_wp2_with fail
        go_roundw
        case rel => exact ⟨i + 1, by omega, by go_num, HB3.out, HBR.out⟩
        case measure => simp [intOf]; omega
      | false =>
        rw [hsm] at c3
        have HR := Lib.hid (HBAD.out i (hba.symm.trans (hht hsm)))
        clear hnx hht hsm hba
        go_wp2_with fail
        refine (c3.out _).mono ?_
        rintro e w5 ⟨rfl, hw5⟩
        obtain rfl := hw5
        go_wp2_with fail
        refine (api_Fail' 11 (i : Int) _).mono ?_
        rintro e w6 ⟨v, rfl, hv, hb⟩
        have hbE := Bt (Bt HB2.out HBR.out) hb
        go_wp2_with fail
        go_ret
        exact ⟨hbE, v, rfl, by rw [HR.out]; exact .inr ⟨(show (11 : Nat) ≠ 0 by decide), hv⟩⟩
    · obtain rfl : i = s.size := by omega
      have hiI : ¬ (s.size : Int) < (s.size : Int) := by omega
      have hnone : badAt s s.size 0 = none := by rw [← hba, Nat.sub_self]; rfl
      have HF := Lib.hid (HFINE.out hnone)
      have hSr := hS2.below hbr
      have hx0 := u8_bne (byteAt s 0)
      have hx1 := u8_bne (byteAt s (s.size - 1))
      rw [← str_ix hpos] at hx0
      rw [← str_ix (show s.size - 1 < s.size by omega)] at hx1
      have hfb : fineB s = (decide (byteAt s 0 ≠ 45) && decide (byteAt s (s.size - 1) ≠ 45) && (!codedB s || (labD s).isSome)) := rfl
      rw [← str_ix hpos, ← str_ix (show s.size - 1 < s.size by omega)] at hfb
      have hlI : (s.size : Int) - 1 = ((s.size - 1 : Nat) : Int) := by omega
      have hposI : (0 : Int) < (s.size : Int) := by omega
      have HFB := Lib.hid hfb
      have HBW := Lib.hid (Bt HB2.out hbr)
      clear hba hbr hnone hfb
      by_cases q0 : s[0] = 45
      · have n0 : ((s[0].toNat : Int) != 45) = false := by rw [hx0]; exact decide_eq_false (fun h => h q0)
        have hr := HF.out
        rw [HFB.out, if_neg (by simp [q0])] at hr
        have HR := Lib.hid hr
        clear hx0 hx1 q0 hr
        go_wp2_with fail
        refine (api_Fail' 24 0 _).mono ?_
        rintro e w6 ⟨v, rfl, hv, hb⟩
        have hbE := Bt HBW.out hb
        go_wp2_with fail
        go_ret
        exact ⟨hbE, v, rfl, by rw [HR.out]; exact .inr ⟨by decide, hv⟩⟩
      have n0 : ((s[0].toNat : Int) != 45) = true := by rw [hx0]; exact decide_eq_true q0
      by_cases q1 : s[s.size - 1] = 45
      · have n1 : ((s[s.size - 1].toNat : Int) != 45) = false := by rw [hx1]; exact decide_eq_false (fun h => h q1)
        have hr := HF.out
        rw [HFB.out, if_neg (by simp [q1])] at hr
        have HR := Lib.hid hr
        clear hx0 hx1 q0 q1 hr
        go_wp2_with fail
        refine (api_Fail' 24 0 _).mono ?_
        rintro e w6 ⟨v, rfl, hv, hb⟩
        have hbE := Bt HBW.out hb
        go_wp2_with fail
        go_ret
        exact ⟨hbE, v, rfl, by rw [HR.out]; exact .inr ⟨by decide, hv⟩⟩
      have n1 : ((s[s.size - 1].toNat : Int) != 45) = true := by rw [hx1]; exact decide_eq_true q1
      have hr := HF.out
      rw [HFB.out, decide_eq_true q0, decide_eq_true q1, Bool.true_and, Bool.true_and] at hr
      have HR := Lib.hid hr
      clear hx0 hx1 q0 q1 hr HF HFB
      cases hcd : codedB s with
      | false =>
        rw [hcd] at cC HR
        have hr := HR.out
        rw [if_pos (by rfl)] at hr
        have HR2 := Lib.hid hr
        have hbE := HBW.out
        clear hr hcd
        go_wp2_with fail
        refine (cC.out _).mono ?_
        rintro e w5 ⟨rfl, hw5⟩
        obtain rfl := hw5
        go_wp2_with fail
        go_ret
        exact ⟨hbE, _, rfl, by rw [HR2.out]; exact .inl ⟨rfl, rfl⟩⟩
      | true =>
        rw [hcd] at cC HR
        clear hcd
        go_wp2_with fail
        refine (cC.out _).mono ?_
        rintro e w5 ⟨rfl, hw5⟩
        obtain rfl := hw5
        go_wp2_with fail
        refine (cD.out _ hSr).mono ?_
        rintro e w6 ⟨hb6, h6⟩
        have hbE := Bt HBW.out hb6
        rcases h6 with ⟨hn, rfl⟩ | ⟨l, v, hn, rfl, _⟩
        · have hr := HR.out
          rw [hn, if_neg (by decide)] at hr
          have HR2 := Lib.hid hr
          clear hr hn
          go_wp2_with fail
          refine (api_Fail' 24 0 _).mono ?_
          rintro e w7 ⟨v, rfl, hv, hb⟩
          have hbF := Bt hbE hb
          go_wp2_with fail
          go_ret
          exact ⟨hbF, v, rfl, by rw [HR2.out]; exact .inr ⟨by decide, hv⟩⟩
        · have hr := HR.out
          rw [hn, if_pos (by rfl)] at hr
          have HR2 := Lib.hid hr
          clear hr hn
          go_wp2_with fail
          go_ret
          exact ⟨hbE, _, rfl, by rw [HR2.out]; exact .inl ⟨rfl, rfl⟩⟩
end Go.Proofs.YtbonnmkkacplgaaGreatDoor

/- utf.Chars: all characters of bytes. -/
namespace Go.Proofs.YtbonnmkkacplgaaGreatDoor
open Go.RowKit

def CharsPost (s : ByteArray) (w : World) (e : Ending) (w' : World) : Prop :=
  Below w.heap.size w w' ∧ (((chrs s).2 = none ∧ ∃ v, e = .returned (.tuple #[v, .nilIface]) ∧ w'.ownsRow w.heap.size 3 1 v (chrs s).1.length ((chrs s).1.map intV)) ∨
    (∃ i, (chrs s).2 = some i ∧ ∃ v, e = .returned (.tuple #[.slice none 0 0, v]) ∧ IsFault w' v 12 i))

set_option maxHeartbeats 1600000 in
set_option maxRecDepth 100000 in
theorem utf_Chars (v : Value) (s : ByteArray) (w : World) (hU : Utf8Laid w) (hs : s.size ≤ 16777216) (hv : BytesSl w v s) :
    Calls Tryz.prog 29 #[v] w (CharsPost s w) := by
  rcases hv with ⟨h0, a, cap, rfl⟩ | ⟨b, off, cap, rfl, hc, hcm, hbs, hp⟩
  · have hz := Lib.hid ((Reach.zero s).done (by omega))
    clear h0
    go_enter Tryz.func29, Tryz.ntmps29
    go_wp2_with fail
    refine wp_loop_rounds 1 ?_
    rw [rounds_succ]
    go_wp2_with fail
    go_ret2
    exact ⟨Below.refl _ _, .inl ⟨by rw [hz.out], _, rfl, by rw [hz.out]; exact World.ownsRow_nil _ _ _ _⟩⟩
  · obtain ⟨i0, hi, hz0, hz1, hz2⟩ := info_parts info_int
    unfold maxLen at hcm
    go_enter Tryz.func29, Tryz.ntmps29
    go_wp2_with fail
    go_loopw [4, 5] (fun v a wr => ∃ (i : Nat) (l : List Nat), i ≤ s.size ∧ a = .int .i64 i ∧ Reach s l i ∧ wr.ownsRow w.heap.size 3 1 v l.length (l.map intV) ∧ Below w.heap.size w wr)
      (fun _ a _ => s.size - (intOf a).toNat)
    case atStart => exact ⟨0, [], Nat.zero_le _, rfl, Reach.zero s, World.ownsRow_nil _ _ _ _, Below.refl _ _⟩
    case round =>
      obtain ⟨i, l, hil, rfl, hr, hown, hbr⟩ := hrel
      have hll : l.length ≤ i := by obtain ⟨_, _, h, _⟩ := hr; exact h
      have HR := Lib.hid hr
      clear hr
      by_cases hlt : i < s.size
      · obtain ⟨hd1, hd2, hd3, hd4⟩ := decB_bounds s i hlt
        clear hd4
        go_wp2_with fail
        refine (utf_Next s i b off cap _ (hU.below hbr) hlt hc hcm (hp.below hbr hbs)).mono ?_
        rintro e w2 ⟨hb2, h⟩
        have hown2 := ownsRow_below hown hb2
        have hbr2 := Bt hbr hb2
        clear hown hbr hb2
        rcases h with ⟨hok, rfl⟩ | ⟨hok, v, rfl, hv⟩
        · have hst := HR.out.step hlt hok
          generalize (decB s i).1 = c at *
          generalize (decB s i).2 = n at *
          have HST := Lib.hid hst
          clear hst hok
          go_wp2_with (at_builtin; refine wpList_append_own _ rfl _ _ 46 rfl w.heap.size 3 i0 (.int .i64 0) 1 8 Tryz.underlying46 hi hz0 hz1 hz2 rfl (by decide) _ _ _ rfl (hown2.alloc _) ⟨w2.heap.size, 0, none⟩ 1 1 [intV c] rfl rfl ?c1 ?c2 ?c3 ?c4 ?c5 ?_)
          case c1 =>
            intro j u hj
            match j, hj with
            | 0, hj => simp at hj; subst hj; simp [Addr.add, intV]
          case c2 => intro u hu; simp at hu; subst hu; rfl
          case c3 => unfold maxLen; omega
          case c4 => omega
          case c5 => have := hbr2.size; simp; omega
          intro v1 w3 hown3 hg3 _
          have hbr3 := below_app hbr2 hown2 (Nat.le_refl _) hg3
          clear hg3 hown2 hbr2
          go_wp2_with fail
          go_roundw
          case rel => exact ⟨i + n, l ++ [c], by omega, by go_num, HST.out, by simpa using hown3, hbr3⟩
          case measure => simp [intOf]; omega
        · obtain ⟨p, rfl⟩ := hv.ne_nil
          have hb := Lib.hid (HR.out.bad hlt hok)
          clear hok
          go_wp2_with fail
          go_ret2
          exact ⟨hbr2, .inr ⟨i, by rw [hb.out], _, rfl, hv⟩⟩
      · have hb := Lib.hid (HR.out.done hlt)
        obtain rfl : i = s.size := by omega
        go_wp2_with fail
        go_ret2
        exact ⟨hbr, .inl ⟨by rw [hb.out], _, rfl, by rw [hb.out]; exact hown⟩⟩

def ValidPost (s : ByteArray) (w : World) (e : Ending) (w' : World) : Prop :=
  Below w.heap.size w w' ∧ (((chrs s).2 = none ∧ e = .returned .nilIface) ∨ (∃ i, (chrs s).2 = some i ∧ ∃ v, e = .returned v ∧ IsFault w' v 12 i))
end Go.Proofs.YtbonnmkkacplgaaGreatDoor

/- The reference's Small. -/
namespace Go.Proofs.YtbonnmkkacplgaaGreatDoor
open Go.RowKit

def smallN (n : Nat) : Nat := if 65 ≤ n ∧ n ≤ 90 then n + 32 else n
theorem ret_u8 {a b : Int} (h : a = b) : Ending.returned (.int .u8 a) = .returned (.int .u8 b) := by rw [h]
theorem ref_Small (n : Nat) (hn : n < 256) (w : World) : Calls Tryz.prog 70 #[.int .u8 (n : Int)] w fun e w' => e = .returned (.int .u8 (smallN n : Nat)) ∧ w = w' := by
  by_cases h1 : 65 ≤ n
  · by_cases h2 : n ≤ 90
    · have hv := Lib.hid (show smallN n = n + 32 by unfold smallN; rw [if_pos ⟨h1, h2⟩])
      go_enter Tryz.func70, Tryz.ntmps70
      go_wp2
      go_ret
      exact ⟨ret_u8 (by rw [hv.out]; omega), rfl⟩
    · have hv := Lib.hid (show smallN n = n by unfold smallN; rw [if_neg (by omega)])
      go_enter Tryz.func70, Tryz.ntmps70
      go_wp2
      go_ret
      exact ⟨ret_u8 (by rw [hv.out]), rfl⟩
  · have hv := Lib.hid (show smallN n = n by unfold smallN; rw [if_neg (by omega)])
    go_enter Tryz.func70, Tryz.ntmps70
    go_wp2
    go_ret
    exact ⟨ret_u8 (by rw [hv.out]), rfl⟩
end Go.Proofs.YtbonnmkkacplgaaGreatDoor
