/- label.ASCII. -/
import Derived.Test.YtbonnmkkacplgaaGreatDoorLabelNamesM15
import Derived.Test.YtbonnmkkacplgaaGreatDoorLabelNamesM6
import Derived.Test.YtbonnmkkacplgaaGreatDoorLabelNamesM16
import Derived.Test.YtbonnmkkacplgaaGreatDoorLabelNamesM1
import Derived.Test.YtbonnmkkacplgaaGreatDoorLabelNamesM11
import Derived.Test.YtbonnmkkacplgaaGreatDoorLabelNamesM12
import Derived.Laws.OwnMore
import Derived.Deep.OwnRows
import Derived.Maps.AppendAt
import Derived.Lib.SlicesS
import Derived.Test.YtbonnmkkacplgaaGreatDoorShelf
import Derived.Lib.Join

namespace Go.Proofs.YtbonnmkkacplgaaGreatDoor
open Go.RowKit

/-- The place of the first character that may not stand in a label. -/
def badC : List Nat → Nat → Option Nat
  | [], _ => none
  | c :: l, at_ => if mayB c = true then badC l (at_ + (putL c).length) else some at_
theorem badC_hit {c : Nat} {l : List Nat} {at_ : Nat} (h : mayB c = false) : badC (c :: l) at_ = some at_ := by rw [badC, if_neg (by rw [h]; decide)]
theorem badC_next {c : Nat} {l : List Nat} {at_ : Nat} (h : mayB c = true) : badC (c :: l) at_ = badC l (at_ + (putL c).length) := by rw [badC, if_pos h]
/-- A label of characters from 128 on too. -/
def asciiW (l : List Nat) : Except (Nat × Nat) ByteArray :=
  match badC l 0 with
  | some i => .error (11, i)
  | none => if marksL l = true then if 256 < l.length ∨ 59 < (encN l).length then .error (14, 63) else .ok ⟨(xnL ++ encN l).toArray⟩ else .error (24, 0)
theorem asciiW_bad {l : List Nat} {i : Nat} (h : badC l 0 = some i) : asciiW l = .error (11, i) := by unfold asciiW; rw [h]
theorem asciiW_marks {l : List Nat} (h : badC l 0 = none) (h2 : marksL l = false) : asciiW l = .error (24, 0) := by unfold asciiW; rw [h]; exact if_neg (by rw [h2]; decide)
theorem asciiW_long {l : List Nat} (h : badC l 0 = none) (h2 : marksL l = true) (h3 : 256 < l.length ∨ 59 < (encN l).length) : asciiW l = .error (14, 63) := by unfold asciiW; rw [h]; dsimp only; rw [if_pos h2, if_pos h3]
theorem asciiW_ok {l : List Nat} (h : badC l 0 = none) (h2 : marksL l = true) (h3 : ¬ (256 < l.length ∨ 59 < (encN l).length)) : asciiW l = .ok ⟨(xnL ++ encN l).toArray⟩ := by unfold asciiW; rw [h]; dsimp only; rw [if_pos h2, if_neg h3]
/-- A text's characters; none, where it isn't right. -/
def lowC (s : ByteArray) : List Nat := if (chrs s).2.isSome = true then [] else (chrs s).1
theorem lowC_ok {s : ByteArray} (h : (chrs s).2 = none) : lowC s = (chrs s).1 := by unfold lowC; rw [h]; rfl
theorem lowC_bad {s : ByteArray} {i : Nat} (h : (chrs s).2 = some i) : lowC s = [] := by unfold lowC; rw [h]; rfl
theorem lowC_right (s : ByteArray) : ∀ c ∈ lowC s, rightB (c : Int) = true := by
  intro c hc
  unfold lowC at hc
  split at hc
  · cases hc
  · exact (rightC_iff c).1 (right_chrs s c hc)
theorem lowC_len (s : ByteArray) : (lowC s).length ≤ s.size := by
  unfold lowC
  split
  · exact Nat.zero_le _
  · exact chrs_len s
/-- A label's form of ASCII. -/
def asciiL (s : ByteArray) : Except (Nat × Nat) ByteArray :=
  match (chrs s).2 with
  | some i => .error (12, i)
  | none => if wideL (chrs s).1 = true then asciiW (lowC (lowerS s)) else if (rightL (lowerS s)).1 = 0 then .ok (lowerS s) else .error (rightL (lowerS s))
theorem asciiL_utf {s : ByteArray} {i : Nat} (h : (chrs s).2 = some i) : asciiL s = .error (12, i) := by unfold asciiL; rw [h]
theorem asciiL_wide {s : ByteArray} (h : (chrs s).2 = none) (h2 : wideL (chrs s).1 = true) : asciiL s = asciiW (lowC (lowerS s)) := by unfold asciiL; rw [h]; exact if_pos h2
theorem asciiL_low {s : ByteArray} (h : (chrs s).2 = none) (h2 : wideL (chrs s).1 = false) (h3 : (rightL (lowerS s)).1 = 0) : asciiL s = .ok (lowerS s) := by unfold asciiL; rw [h]; dsimp only; rw [if_neg (by rw [h2]; decide), if_pos h3]
theorem asciiL_err {s : ByteArray} (h : (chrs s).2 = none) (h2 : wideL (chrs s).1 = false) (h3 : (rightL (lowerS s)).1 ≠ 0) : asciiL s = .error (rightL (lowerS s)) := by unfold asciiL; rw [h]; dsimp only; rw [if_neg (by rw [h2]; decide), if_neg h3]
def AscPost (s : ByteArray) (w : World) (e : Ending) (w' : World) : Prop := Below w.heap.size w w' ∧
  ((∃ k i : Nat, ∃ v, asciiL s = .error (k, i) ∧ k ≠ 0 ∧ e = .returned (.tuple #[.string ⟨#[]⟩, v]) ∧ IsFault w' v k i) ∨ ∃ t, asciiL s = .ok t ∧ e = .returned (.tuple #[.string t, .nilIface]))
/-- utf.Chars, whatever it tells. -/
theorem chars_any {s : ByteArray} {w w' : World} {e : Ending} (h : CharsPost s w e w') : Below w.heap.size w w' ∧ ∃ v u, e = .returned (.tuple #[v, u]) ∧ OwnN w' w.heap.size v (lowC s) := by
  obtain ⟨hb, h⟩ := h
  rcases h with ⟨h1, v, rfl, hv⟩ | ⟨i, h1, v, rfl, _⟩
  · exact ⟨hb, v, _, rfl, by rw [lowC_ok h1]; exact hv⟩
  · exact ⟨hb, _, v, rfl, by rw [lowC_bad h1]; exact World.ownsRow_nil _ _ _ _⟩
theorem drop_getD {l : List Nat} {i : Nat} (h : i < l.length) : l.drop i = l.getD i 0 :: l.drop (i + 1) := by
  rw [List.drop_eq_getElem_cons h]; simp [List.getD, h]
theorem xn_app (l : List UInt8) : (⟨#[120, 110, 45, 45]⟩ : ByteArray) ++ ⟨l.toArray⟩ = ⟨(xnL ++ l).toArray⟩ := by
  apply ba_ext
  rw [data_append]
  rfl
set_option maxHeartbeats 6400000 in
set_option maxRecDepth 100000 in
theorem label_ASCII (s : ByteArray) (w : World) (hS : SpanLaid w) (hU : Utf8Laid w) (hs : s.size ≤ 100000) : Calls Tryz.prog 10 #[.string s] w (AscPost s w) := by
  have c1 := Lib.hid (fun v W h h2 => utf_Chars v s W h (by omega) h2)
  have hls := lowerS_size s
  have c2 := Lib.hid (fun W => fold_Lower s W (by omega))
  have c3 := Lib.hid (fun W h => label_Right (lowerS s) W h (by omega))
  have c4 := Lib.hid (fun v W h h2 => (utf_Chars v (lowerS s) W h (by omega) h2).mono fun _ _ h => chars_any h)
  have H1 := Lib.hid (fun i h => asciiL_utf (s := s) (i := i) h)
  have H2 := Lib.hid (fun h h2 => asciiL_wide (s := s) h h2)
  have H3 := Lib.hid (fun h h2 h3 => asciiL_low (s := s) h h2 h3)
  have H4 := Lib.hid (fun h h2 h3 => asciiL_err (s := s) h h2 h3)
  have hcl := chrs_len s
  have hlr := lowC_right (lowerS s)
  have hll := lowC_len (lowerS s)
  generalize lowerS s = low at *
  have HLR := Lib.hid hlr
  clear hlr
  go_enter Tryz.func10, Tryz.ntmps10
  go_wp2_with ((with_reducible refine wpList_bytes_sl rfl 9 32 5 _ rfl s rfl Tryz.underlying9 Tryz.underlying32 Tryz.underlying5 (by omega) ?_); intro v1 w2 hv1 hb2)
  have hU2 := hU.below hb2
  have hS2 := hS.below hb2
  have HB2 := Lib.hid hb2
  clear hb2
  go_wp2_with fail
  refine (c1.out v1 w2 hU2 hv1).mono ?_
  rintro e w3 ⟨hb3, h3⟩
  have hU3 := hU2.below hb3
  have hS3 := hS2.below hb3
  have HB3 := Lib.hid (Bt HB2.out hb3)
  clear hv1
  rcases h3 with ⟨hn, v3, rfl, hown3⟩ | ⟨i, hn, v3, rfl, hv3⟩
  · have HN := Lib.hid hn
    have HO3 := Lib.hid (show OwnN w3 _ v3 (chrs s).1 from hown3)
    obtain ⟨va, vc, rfl⟩ := row_len hown3
    have c5 := Lib.hid (fun W (base : Nat) (h : OwnN W base (.slice va (chrs s).1.length vc) (chrs s).1) => label_plain va vc base (chrs s).1 W h (by omega))
    generalize hcs : (chrs s).1 = cs at *
    have HCS := Lib.hid hcs
    clear hn hown3 hb3 hcs
    go_wp2_with fail
    refine (c2.out _).mono ?_
    rintro e w4 ⟨rfl, hb4⟩
    have hU4 := hU3.below hb4
    have hS4 := hS3.below hb4
    have HB4 := Lib.hid (Bt HB3.out hb4)
    have HO4 := Lib.hid (HO3.out.below hb4)
    clear hb4
    go_wp2_with fail
    refine (c5.out _ _ HO4.out).mono ?_
    rintro e w5 ⟨rfl, q5, hq5⟩
    have hbq : Below w4.heap.size w4 w5 := by rw [← hq5]; exact below_drewN (Below.refl _ _) q5
    have hU5 := hU4.below hbq
    have hS5 := hS4.below hbq
    have HB5 := Lib.hid (Bt HB4.out hbq)
    clear hq5 hbq
    cases hw : wideL cs with
    | false =>
      have HL := Lib.hid (fun h => H3.out HN.out hw h)
      have HE := Lib.hid (fun h => H4.out HN.out hw h)
      clear hw
      go_wp2_with fail
      refine (c3.out _ hS5).mono ?_
      rintro e w6 ⟨hb6, v6, rfl, hv6⟩
      have hbE := Bt HB5.out hb6
      rcases hv6 with ⟨h0, rfl⟩ | ⟨h0, hv6⟩
      · have HA := Lib.hid (HL.out h0)
        clear h0
        go_wp2_with fail
        go_ret2
        exact ⟨hbE, .inr ⟨low, HA.out, rfl⟩⟩
      · have HA := Lib.hid (HE.out h0)
        have HV := Lib.hid hv6
        obtain ⟨p, rfl⟩ := hv6.ne_nil
        have H0 := Lib.hid h0
        clear h0 hv6
        go_wp2_with fail
        go_ret2
        exact ⟨hbE, .inl ⟨(rightL low).1, (rightL low).2, _, HA.out, H0.out, rfl, HV.out⟩⟩
    | true =>
      have HW := Lib.hid (H2.out HN.out hw)
      clear hw
      go_wp2_with ((with_reducible refine wpList_bytes_sl rfl 9 32 5 _ rfl low rfl Tryz.underlying9 Tryz.underlying32 Tryz.underlying5 (by omega) ?_); intro v6 w6 hv6 hb6)
      have hU6 := hU5.below hb6
      have hS6 := hS5.below hb6
      have HB6 := Lib.hid (Bt HB5.out hb6)
      clear hb6
      go_wp2_with fail
      refine (c4.out v6 w6 hU6 hv6).mono ?_
      rintro e w7 ⟨hb7, v7, u7, rfl, hown7⟩
      have hS7 := hS6.below hb7
      have HB7 := Lib.hid (Bt HB6.out hb7)
      have hllz : (lowC low).length ≤ 100000 := by omega
      generalize lowC low = l at *
      have HO7 := Lib.hid hown7
      obtain ⟨la, lc, rfl⟩ := row_len hown7
      have hw7 := HB7.out.size
      clear hb7 hown7 hv6
      go_wp2_with fail
      go_loopw [8, 41] (fun a v wr => ∃ i at_ : Nat, i ≤ l.length ∧ v = .int .i64 i ∧ a = .int .i64 at_ ∧ at_ ≤ 4 * i ∧ badC (l.drop i) at_ = badC l 0 ∧ Below w7.heap.size w7 wr) (fun _ v _ => l.length - (intOf v).toNat)
      case atStart => exact ⟨0, 0, Nat.zero_le _, rfl, rfl, Nat.zero_le _, rfl, Below.refl _ _⟩
      case round =>
        obtain ⟨i, at_, hil, rfl, rfl, hat, hba, hbr⟩ := hrel
        have HBR := Lib.hid hbr
        by_cases hlt : i < l.length
        · obtain ⟨g, rfl, hc1, hc2, hc⟩ := (HO7.out.below hbr).getD (by omega)
          have d0 := hc i hlt
          have hSr := hS7.below hbr
          have hrc := HLR.out (l.getD i 0) (by simp [List.getD, hlt])
          obtain ⟨c', hc', _, hcm⟩ := right_nat hrc
          rw [drop_getD hlt] at hba
          have hmay : mayB (l.getD i 0) = (smallZ ((l.getD i 0 : Nat) : Int) || charZ ((l.getD i 0 : Nat) : Int)) := rfl
          have hiI : (i : Int) < (l.length : Int) := by omega
          unfold maxLen at hc2
          generalize l.getD i 0 = x at *
          have hx2 : x ≤ 1114111 := by omega
          have hpl := putN_len x
          have hpe := putL_len x
          have c7 := Lib.hid (fun W => label_small (x : Int) W (by omega) (by omega))
          have c8 := Lib.hid (fun W h => label_Char (x : Int) W h (by omega) (by omega))
          have cP : ∀ W, Calls Tryz.prog 34 #[.int .i64 (x : Int)] W fun e w' => Below W.heap.size W w' ∧ ∃ v, e = .returned (.tuple #[v, .nilIface]) ∧ OwnB w' W.heap.size v (putL x) := fun W => (utf_Put (x : Int) W).mono fun e w' ⟨hb, h⟩ => by
            rcases h with ⟨_, v, he, hv⟩ | ⟨h, _⟩
            · exact ⟨hb, v, he, hv⟩
            · rw [hrc] at h; cases h
          have CP := Lib.hid cP
          clear cP
          have hnx := fun h => (badC_next (c := x) (l := l.drop (i + 1)) (at_ := at_) h).symm.trans hba
          have hht := fun h => (badC_hit (c := x) (l := l.drop (i + 1)) (at_ := at_) h).symm.trans hba
          have HNX := Lib.hid hnx
          have HHT := Lib.hid hht
          have hpl4 : (putL x).length ≤ 4 := by omega
          clear hnx hht hba hc hrc hc' hcm hbr hpl hpe
          cases hsm : smallZ (x : Int) with
          | true =>
            rw [hsm] at c7 hmay
            have HB := Lib.hid (HNX.out (by rw [hmay]; rfl))
            clear hsm hmay
            go_wp2_with fail
            refine (c7.out _).mono ?_
            rintro e w8 ⟨rfl, hw8⟩
            obtain rfl := hw8
            go_wp2_with fail
            refine (CP.out _).mono ?_
            rintro e w9 ⟨hb9, v9, rfl, hown9⟩
            obtain ⟨pa, pc, rfl⟩ := row_len hown9
            have hbE := Bt HBR.out hb9
            clear hb9 hown9
            generalize (putL x).length = pl at *
            go_wp2_with fail
            go_roundw
            case rel => exact ⟨i + 1, at_ + pl, by omega, by go_num, by go_num, by omega, HB.out, hbE⟩
            case measure => simp [intOf]; omega
          | false =>
            rw [hsm] at c7 hmay
            cases hch : charZ (x : Int) with
            | true =>
              rw [hch] at c8 hmay
              have HB := Lib.hid (HNX.out (by rw [hmay]; rfl))
              clear hsm hmay hch
              go_wp2_with fail
              refine (c7.out _).mono ?_
              rintro e w8 ⟨rfl, hw8⟩
              obtain rfl := hw8
              go_wp2_with fail
              refine (c8.out _ hSr).mono ?_
              rintro e w8 ⟨rfl, hb8⟩
              have hbr8 := Bt HBR.out hb8
              go_wp2_with fail
              refine (CP.out _).mono ?_
              rintro e w9 ⟨hb9, v9, rfl, hown9⟩
              obtain ⟨pa, pc, rfl⟩ := row_len hown9
              have hbE := Bt hbr8 hb9
              clear hb9 hown9
              generalize (putL x).length = pl at *
              go_wp2_with fail
              go_roundw
              case rel => exact ⟨i + 1, at_ + pl, by omega, by go_num, by go_num, by omega, HB.out, hbE⟩
              case measure => simp [intOf]; omega
            | false =>
              rw [hch] at c8 hmay
              have HB := Lib.hid (HW.out.trans (asciiW_bad (HHT.out (by rw [hmay]; rfl)).symm))
              clear hsm hmay hch
              go_wp2_with fail
              refine (c7.out _).mono ?_
              rintro e w8 ⟨rfl, hw8⟩
              obtain rfl := hw8
              go_wp2_with fail
              refine (c8.out _ hSr).mono ?_
              rintro e w8 ⟨rfl, hb8⟩
              have hbr8 := Bt HBR.out hb8
              go_wp2_with fail
              refine (api_Fail' 11 (at_ : Int) _).mono ?_
              rintro e w9 ⟨v9, rfl, hv9, hb9⟩
              have hbE := Bt HB7.out (Bt hbr8 hb9)
              go_wp2_with fail
              go_ret2
              exact ⟨hbE, .inl ⟨11, at_, v9, HB.out, by decide, rfl, hv9⟩⟩
        · obtain rfl : i = l.length := by omega
          have hiI : ¬ (l.length : Int) < (l.length : Int) := by omega
          rw [List.drop_length] at hba
          have hnone : badC l 0 = none := hba.symm
          have HM0 := Lib.hid (fun h => HW.out.trans (asciiW_marks hnone h))
          have HM1 := Lib.hid (fun h h2 => HW.out.trans (asciiW_long hnone h h2))
          have HM2 := Lib.hid (fun h h2 => HW.out.trans (asciiW_ok hnone h h2))
          have HOr := Lib.hid (HO7.out.below hbr)
          have cM := Lib.hid (label_marks la lc _ l wr HOr.out (by omega))
          have cE := Lib.hid (puny_Encode _ _ wr HOr.out.sl (by rw [intsN_len]; omega))
          have hbE := Bt HB7.out hbr
          have HBE := Lib.hid hbE
          clear hba hnone hbr hbE
          cases hmk : marksL l with
          | false =>
            rw [hmk] at cM
            have HA := Lib.hid (HM0.out hmk)
            clear hmk
            go_wp2_with fail
            refine cM.out.mono ?_
            rintro e w8 ⟨rfl, hw8⟩
            obtain rfl := hw8
            go_wp2_with fail
            refine (api_Fail' 24 0 _).mono ?_
            rintro e w9 ⟨v9, rfl, hv9, hb9⟩
            have hbE := Bt HBE.out hb9
            go_wp2_with fail
            go_ret2
            exact ⟨hbE, .inl ⟨24, 0, v9, HA.out, by decide, rfl, hv9⟩⟩
          | true =>
            rw [hmk] at cM
            have HA1 := Lib.hid (fun h => HM1.out hmk h)
            have HA2 := Lib.hid (fun h => HM2.out hmk h)
            clear hmk
            go_wp2_with fail
            refine cM.out.mono ?_
            rintro e w8 ⟨rfl, hw8⟩
            obtain rfl := hw8
            go_wp2_with fail
            refine cE.out.mono ?_
            rintro e w9 ⟨hb9, h9⟩
            have HB9 := Lib.hid (Bt HBE.out hb9)
            clear hb9
            rcases h9 with ⟨k, j, v9, hE, hk, rfl, hv9⟩ | ⟨T, hE, rfl⟩
            · have hlong : 256 < l.length := by
                apply Nat.lt_of_not_le
                intro hle
                rw [enc_nats HLR.out hle] at hE
                cases hE
              have HA := Lib.hid (HA1.out (.inl hlong))
              obtain ⟨p, rfl⟩ := hv9.ne_nil
              clear hE hk hv9 hlong
              go_wp2_with fail
              refine (api_Fail' 14 63 _).mono ?_
              rintro e w10 ⟨v10, rfl, hv10, hb10⟩
              have hbE := Bt HB9.out hb10
              go_wp2_with fail
              go_ret2
              exact ⟨hbE, .inl ⟨14, 63, v10, HA.out, by decide, rfl, hv10⟩⟩
            · have hshort : l.length ≤ 256 := by
                apply Nat.le_of_not_lt
                intro hlt
                rw [encE_long (by rw [intsN_len]; exact hlt)] at hE
                cases hE
              have hTe : T = encN l := by
                rw [enc_nats HLR.out hshort] at hE
                cases hE; rfl
              have hTl := encN_len hshort HLR.out
              rw [← hTe] at hTl
              have hTz : (⟨T.toArray⟩ : ByteArray).size = T.length := by show T.toArray.size = _; simp
              have hxa := xn_app T
              have hxz : (⟨(xnL ++ T).toArray⟩ : ByteArray).size = T.length + 4 := by show (xnL ++ T).toArray.size = _; simp [xnL]
              by_cases h59 : 59 < T.length
              · have HA := Lib.hid (HA1.out (.inr (by rw [← hTe]; exact h59)))
                have hz1 : (⟨T.toArray⟩ : ByteArray).size ≤ 3000 := by omega
                have hI : ((⟨#[120, 110, 45, 45]⟩ : ByteArray) ++ ⟨T.toArray⟩).size > 63 := by rw [hxa]; omega
                have hI2 : ((((⟨#[120, 110, 45, 45]⟩ : ByteArray) ++ ⟨T.toArray⟩).size : Nat) : Int) > 63 := by omega
                have hT1 : 59 < (⟨T.toArray⟩ : ByteArray).size := by omega
                clear hE hTe hxa hxz h59 hTz hTl hI hI2
                generalize (⟨T.toArray⟩ : ByteArray) = TT at *
                have f1 : 63 < 4 + TT.size := by omega
                have f2 : (63 : Int) < 4 + (TT.size : Int) := by omega
                have f3 : 4 + (TT.size : Int) > 63 := by omega
                go_wp2_with fail
                refine (api_Fail' 14 63 _).mono ?_
                rintro e w10 ⟨v10, rfl, hv10, hb10⟩
                have hbE := Bt HB9.out hb10
                go_wp2_with fail
                go_ret2
                exact ⟨hbE, .inl ⟨14, 63, v10, HA.out, by decide, rfl, hv10⟩⟩
              · have HA := Lib.hid (HA2.out (by rw [← hTe]; omega))
                have hz1 : (⟨T.toArray⟩ : ByteArray).size ≤ 3000 := by omega
                have hI2 : ¬ ((((⟨#[120, 110, 45, 45]⟩ : ByteArray) ++ ⟨T.toArray⟩).size : Nat) : Int) > 63 := by rw [hxa]; omega
                have HXA := Lib.hid hxa
                have HTE := Lib.hid hTe
                have hbE := HB9.out
                have hT1 : (⟨T.toArray⟩ : ByteArray).size ≤ 59 := by omega
                clear hE hTe hxa hxz h59 hTz hTl hI2
                generalize (⟨T.toArray⟩ : ByteArray) = TT at *
                have f1 : ¬ 63 < 4 + TT.size := by omega
                have f2 : ¬ (63 : Int) < 4 + (TT.size : Int) := by omega
                have f3 : ¬ 4 + (TT.size : Int) > 63 := by omega
                go_wp2_with fail
                go_ret2
                exact ⟨hbE, .inr ⟨_, HA.out, by rw [HXA.out, HTE.out]; rfl⟩⟩
  · have HA := Lib.hid (H1.out i hn)
    have HV := Lib.hid hv3
    obtain ⟨p, rfl⟩ := hv3.ne_nil
    have hbE := HB3.out
    clear hn hv3 hb3
    go_wp2_with fail
    go_ret2
    exact ⟨hbE, .inl ⟨12, i, _, HA.out, by decide, rfl, HV.out⟩⟩
end Go.Proofs.YtbonnmkkacplgaaGreatDoor

/- A slice of one-cell elements that is read as values. -/
namespace Go.Proofs.YtbonnmkkacplgaaGreatDoor
open Go.RowKit

/-- A slice of one-cell elements that reads as these values. -/
def RowSl (w : World) (a : Option Addr) (l : List Value) : Prop := ∀ i v, l[i]? = some v → ∃ b, a = some ⟨b, 0, none⟩ ∧ b < w.heap.size ∧ w.cell? ⟨b, i, none⟩ = some v
theorem row_sl {w : World} {base n : Nat} {e : TypeId} {v : Value} {l : List Value} (h : w.ownsRow base e 1 v n l) (hn : n = l.length) : ∃ a c, v = .slice a l.length c ∧ l.length ≤ c ∧ c ≤ maxLen ∧ RowSl w a l := by
  subst hn
  have h' := h
  rcases h.2 with ⟨e0, e1⟩ | ⟨g, cap, cur, e0, hg, hh, h1, h2, _⟩
  · refine ⟨none, 0, by rw [e0, e1], by omega, by unfold maxLen; omega, fun i c hc => ?_⟩
    have := (List.getElem?_eq_some_iff.1 hc).1
    omega
  · refine ⟨_, cap, e0, h1, h2, fun i c hc => ?_⟩
    have hlt := (List.getElem?_eq_some_iff.1 hc).1
    subst e0
    refine ⟨g, rfl, lt_of_block hh, ?_⟩
    rw [h'.cellAt i (by omega), hc]
theorem RowSl.below {w w' : World} {a : Option Addr} {l : List Value} (h : RowSl w a l) (hb : Below w.heap.size w w') : RowSl w' a l := by
  intro i v hv
  obtain ⟨b, e, hlt, h1⟩ := h i v hv
  exact ⟨b, e, Nat.lt_of_lt_of_le hlt hb.size, (hb.cell (p := ⟨b, i, none⟩) hlt).trans h1⟩
/-- .. where a newer row is written. -/
theorem RowSl.mid {w w1 w2 : World} {a : Option Addr} {l : List Value} {g : Nat} (h : RowSl w a l) (hb : Below w.heap.size w w1) (hg : w1.grownBy w2 (some g)) (hn : w.heap.size ≤ g) : RowSl w2 a l := by
  intro i v hv
  obtain ⟨b, e, hlt, h1⟩ := h i v hv
  have h2 := Nat.lt_of_lt_of_le hlt hb.size
  have hk := hg.block b h2 (fun e => by injection e with e; omega)
  exact ⟨b, e, Nat.lt_of_lt_of_le h2 hg.size, (World.cell?_of_block hk).trans ((hb.cell (p := ⟨b, i, none⟩) hlt).trans h1)⟩
end Go.Proofs.YtbonnmkkacplgaaGreatDoor

/- Rows of strings of a call's own; two rows of strings held against each other; is a string among them. -/
namespace Go.Proofs.YtbonnmkkacplgaaGreatDoor
open Go.RowKit

theorem info_strS : (Tryz.prog.info? 9).map (fun i => (i.zero, i.size, i.bytes)) = some (some (.string ByteArray.empty), 1, 16) := by kernel_rfl
def OwnS (w : World) (base : Nat) (v : Value) (l : List ByteArray) : Prop := w.ownsRow base 9 1 v l.length (l.map strV)
theorem OwnS.below {w w' : World} {base : Nat} {v : Value} {l : List ByteArray} (h : OwnS w base v l) (hb : Below w.heap.size w w') : OwnS w' base v l := ownsRow_below h hb
theorem OwnS.drewN {w : World} {base : Nat} {v : Value} {l : List ByteArray} (h : OwnS w base v l) (m : Nat) : OwnS (w.drewN m) base v l := h
theorem OwnS.nil (w : World) (base : Nat) : OwnS w base (.slice none 0 0) [] := World.ownsRow_nil _ _ _ _
theorem OwnS.lit0 (w : World) (base : Nat) (hb : base ≤ w.heap.size) : OwnS (w.alloc (.cells #[] 9)) base (.slice (some ⟨w.heap.size, 0, none⟩) 0 0) [] :=
  World.ownsRow_lit w #[] 0 hb (Nat.zero_le _) rfl
theorem OwnS.under {w0 w w' : World} {base : Nat} {v : Value} {l : List ByteArray} (h : OwnS w base v l) (hb : Below w0.heap.size w0 w) (hB : w0.heap.size ≤ base) (hg : w.grownBy w' v.ownBlock) : Below w0.heap.size w0 w' :=
  hb.grown hg hb.size (fun j hj => Nat.le_trans hB (World.ownsRow.lt h j hj).1)
theorem OwnS.sl {w : World} {base : Nat} {v : Value} {l : List ByteArray} (h : OwnS w base v l) : ∃ a c, v = .slice a l.length c ∧ l.length ≤ c ∧ c ≤ maxLen ∧ RowSl w a (l.map strV) := by
  have := row_sl h (by simp)
  simpa using this
theorem wpList_app_str {w : World} {ops : Array Oper} {rest : List Oper} {o : Oper} {a : Act} {Q : Exit → Act → World → Prop} (hgd : o.guard = none) (s x : Operand) (ho : o.op = .call { callee := .builtin .append, args := #[s, x], argTypes := #[38, 38] })
    (base : Nat) (v : Value) (l : List ByteArray) (hs : a.eval s = v) (hown : OwnS w base v l) (g c : Nat) (p : ByteArray) (hx : a.eval x = .slice (some ⟨g, 0, none⟩) 1 c) (hb : w.heap[g]? = some (.cells #[.string p] 9 (0, 0)))
    (hl : l.length ≤ 1073741824) (hbase : base ≤ w.heap.size)
    (h : ∀ v' w', OwnS w' base v' (l ++ [p]) → w.grownBy w' v.ownBlock → wpList Tryz.prog ops Q rest (a.put o.dst v') w') : wpList Tryz.prog ops Q (o :: rest) a w := by
  obtain ⟨i, hi, hz, hsize, hby⟩ := info_parts info_strS
  refine wpList_append_own _ hgd s x 38 ho base 9 i _ 1 16 Tryz.underlying38 hi hz hsize hby rfl (by decide) v _ _ hs hown _ 1 c [strV p] hx rfl ?_ ?_ (by unfold maxLen; omega) (by omega) hbase ?_
  · intro j u hj
    match j, hj with
    | 0, hj =>
      simp at hj; subst hj
      rw [Addr.add_lit, Nat.zero_add, cell_of_row w g 0 _ _ _ hb]
      rfl
  · intro u hu; simp at hu; subst hu; rfl
  · intro v' w' h1 h2 _
    refine h v' w' ?_ h2
    unfold OwnS
    rw [List.length_append, List.map_append]
    exact h1
theorem RowSl.strs {w : World} {a : Option Addr} {l : List ByteArray} (h : RowSl w a (l.map strV)) (hne : 0 < l.length) : ∃ b, a = some ⟨b, 0, none⟩ ∧ b < w.heap.size ∧ ∀ j, j < l.length → w.cell? ⟨b, 0 + j, none⟩ = some (.string (l.getD j ByteArray.empty)) := by
  obtain ⟨x, hx⟩ : ∃ x, l[0]? = some x := ⟨_, List.getElem?_eq_getElem hne⟩
  obtain ⟨b, rfl, hb, _⟩ := h 0 (strV x) (by rw [List.getElem?_map, hx]; rfl)
  refine ⟨b, rfl, hb, fun j hj => ?_⟩
  obtain ⟨b', e, _, hc⟩ := h j (strV l[j]) (by rw [List.getElem?_map, List.getElem?_eq_getElem hj]; rfl)
  cases e
  rw [Nat.zero_add, hc]
  simp [strV, List.getD, hj]
set_option maxHeartbeats 1600000 in
theorem ref_SameR (a1 a2 : Option Addr) (c1 c2 : Nat) (l1 l2 : List ByteArray) (w : World) (h1 : RowSl w a1 (l1.map strV)) (h2 : RowSl w a2 (l2.map strV)) (hn1 : l1.length ≤ 16777216) (hn2 : l2.length ≤ 16777216) :
    Calls Tryz.prog 24 #[.slice a1 l1.length c1, .slice a2 l2.length c2] w fun e w' => e = .returned (.bool (decide (l1 = l2))) ∧ ∃ m, w.drewN m = w' := by
  by_cases hn : l1.length = l2.length
  · by_cases h0 : 0 < l1.length
    · obtain ⟨b1, rfl, _, k1⟩ := h1.strs h0
      obtain ⟨b2, rfl, _, k2⟩ := h2.strs (by omega)
      exact ref_Same b1 0 l1.length c1 b2 0 l2.length c2 l1 l2 w ⟨rfl, k1⟩ ⟨rfl, k2⟩ (by omega) (by omega)
    · obtain rfl : l1 = [] := List.eq_nil_of_length_eq_zero (by omega)
      obtain rfl : l2 = [] := List.eq_nil_of_length_eq_zero (by omega)
      show Calls Tryz.prog 24 #[.slice a1 0 c1, .slice a2 0 c2] w fun e w' => e = .returned (.bool true) ∧ ∃ m, w.drewN m = w'
      clear h1 h2 hn1 hn2 hn h0
      go_enter Tryz.func24, Tryz.ntmps24
      go_wp2_with fail
      go_loopw [5] (fun i wr => i = .int .i64 0 ∧ w = wr) (fun _ _ => 0)
      case atStart => exact ⟨rfl, rfl⟩
      case round =>
        obtain ⟨rfl, rfl⟩ := hrel
        go_wp2_with fail
        go_ret
        exact ⟨rfl, 0, rfl⟩
  · have e1 : ((l1.length : Int) != (l2.length : Int)) = true := by simp; omega
    have hne : l1 ≠ l2 := fun h => hn (by rw [h])
    have HNE := Lib.hid hne
    clear hne hn h1 h2
    go_enter Tryz.func24, Tryz.ntmps24
    go_wp2_with fail
    go_ret
    exact ⟨ret_bool (decide_eq_false HNE.out).symm, 0, rfl⟩
end Go.Proofs.YtbonnmkkacplgaaGreatDoor

/- Parts put together by a mark. -/
namespace Go.Proofs.YtbonnmkkacplgaaGreatDoor

def joinA (c : UInt8) : List (List UInt8) → List UInt8
  | [] => []
  | [p] => p
  | p :: q :: r => p ++ c :: joinA c (q :: r)
theorem joinA_lib (c : UInt8) : ∀ l, Lib.join l [c] = joinA c l := by
  intro l
  induction l with
  | nil => rfl
  | cons p l ih =>
    cases l with
    | nil => simp [Lib.join, joinA, List.intercalate]
    | cons q r =>
      have e : Lib.join (p :: q :: r) [c] = p ++ c :: Lib.join (q :: r) [c] := by simp [Lib.join, List.intercalate, List.intersperse]
      rw [e, ih]
      rfl
theorem joinA_snoc (c : UInt8) (p : List UInt8) : ∀ l, l ≠ [] → joinA c (l ++ [p]) = joinA c l ++ c :: p := by
  intro l
  induction l with
  | nil => intro h; exact absurd rfl h
  | cons q l ih =>
    intro _
    cases l with
    | nil => rfl
    | cons r l =>
      show q ++ c :: joinA c ((r :: l) ++ [p]) = q ++ c :: joinA c (r :: l) ++ c :: p
      rw [ih (by simp)]
      simp
theorem split_join (c : UInt8) : ∀ l : List (List UInt8), l ≠ [] → (∀ p ∈ l, ∀ x ∈ p, x ≠ c) → splitL c (joinA c l) = l := by
  intro l
  induction l with
  | nil => intro h; exact absurd rfl h
  | cons p l ih =>
    intro _ h
    cases l with
    | nil => exact splitL_none c p (h p (by simp))
    | cons q l =>
      show splitL c (p ++ c :: joinA c (q :: l)) = _
      rw [splitL_cut c _ p (h p (by simp)), ih (by simp) fun y hy => h y (by simp [hy])]
theorem joinA_nil {c : UInt8} {l : List (List UInt8)} (h : ∀ p ∈ l, p ≠ []) : joinA c l = [] ↔ l = [] := by
  cases l with
  | nil => exact ⟨fun _ => rfl, fun _ => rfl⟩
  | cons p l =>
    refine ⟨fun e => ?_, fun e => by cases e⟩
    cases l with
    | nil => exact absurd e (h p (by simp))
    | cons q l =>
      have e' : p ++ c :: joinA c (q :: l) = [] := e
      simp at e'
theorem joinA_len (c : UInt8) (m : Nat) : ∀ l : List (List UInt8), (∀ p ∈ l, p.length ≤ m) → (joinA c l).length ≤ (m + 1) * l.length := by
  intro l
  induction l with
  | nil => intro _; exact Nat.zero_le _
  | cons p l ih =>
    intro h
    have h1 := h p (by simp)
    have h2 := ih fun y hy => h y (by simp [hy])
    have e : (m + 1) * (p :: l).length = (m + 1) * l.length + (m + 1) := by rw [List.length_cons, Nat.mul_succ]
    rw [e]
    cases l with
    | nil => show p.length ≤ _; omega
    | cons q l =>
      show (p ++ c :: joinA c (q :: l)).length ≤ _
      rw [List.length_append, List.length_cons]
      omega
end Go.Proofs.YtbonnmkkacplgaaGreatDoor
