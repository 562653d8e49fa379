/- glob.pointed: the parts of a pattern with points and stars. -/
import Derived.Test.YtlnnimmiifdnnaaDoorGlobParts
import Derived.Test.YtlnnimmiifdnnaaDoorGlobPoint
import Derived.Test.YtlnnimmiifdnnaaDoorUtfPut
namespace Go.Proofs.YtlnnimmiifdnnaaDoor
open Go.RowKit

theorem prun_some {s t : PSt} {c : Nat} {l : List Nat} (h : pstep s c = some t) : prun s (c :: l) = prun t l := by rw [prun, h]
theorem prun_none {s : PSt} {c : Nat} {l : List Nat} (h : pstep s c = none) : prun s (c :: l) = (s, some s.place) := by rw [prun, h]
theorem drop_one {l : List Nat} {i d : Nat} (h : l[i]? = some d) : l.drop i = d :: l.drop (i + 1) := by
  obtain ⟨hi, rfl⟩ := List.getElem?_eq_some_iff.1 h
  exact List.drop_eq_getElem_cons hi
theorem pstep_esc {l : List GPart} {n c : Nat} {o : Bool} : pstep ⟨l, n, o, true⟩ c = some ⟨l ++ [⟨c, false, false⟩], n + (putN c).length, true, false⟩ := by unfold pstep; rw [if_pos rfl]
theorem pstep_back {l : List GPart} {n : Nat} {o : Bool} : pstep ⟨l, n, o, false⟩ 92 = some ⟨l, n + (putN 92).length, o, true⟩ := by unfold pstep; rw [if_neg (by simp), if_pos rfl]
theorem pstep_star {l : List GPart} {n : Nat} : pstep ⟨l, n, true, false⟩ 42 = some ⟨setMany l, n + (putN 42).length, false, false⟩ := by unfold pstep; rw [if_neg (by simp), if_neg (by omega), if_pos rfl, if_pos rfl]
theorem pstep_bad {l : List GPart} {n : Nat} : pstep ⟨l, n, false, false⟩ 42 = none := by unfold pstep; rw [if_neg (by simp), if_neg (by omega), if_pos rfl, if_neg (by simp)]
theorem pstep_char {l : List GPart} {n c : Nat} {o : Bool} (h1 : c ≠ 92) (h2 : c ≠ 42) : pstep ⟨l, n, o, false⟩ c = some ⟨l ++ [⟨c, decide (c = 46), false⟩], n + (putN c).length, true, false⟩ := by unfold pstep; rw [if_neg (by simp), if_neg h1, if_neg h2]

theorem partsV_setMany (l : List GPart) (h : l ≠ []) : partsV (setMany l) = (partsV l).set ((l.length - 1) * 3 + 2) (.bool true) := by
  obtain ⟨k, p, rfl⟩ : ∃ k p, l = k ++ [p] := ⟨l.dropLast, l.getLast h, (List.dropLast_concat_getLast h).symm⟩
  rw [setMany_snoc, partsV_app, partsV_app]
  have h1 := partsV_len k
  have e : (k ++ [p]).length - 1 = k.length := by simp
  rw [e, List.set_append_right _ _ (by omega)]
  congr 1
  rw [show k.length * 3 + 2 - (partsV k).length = 2 by omega]
  rfl
theorem OwnP.many {w : World} {base n c : Nat} {a : Option Addr} {l : List GPart} (h : OwnP w base (.slice a n c) l) (hne : l ≠ []) :
    ∃ g, a = some ⟨g, 0, none⟩ ∧ base ≤ g ∧ g < w.heap.size ∧ n = l.length ∧ n ≤ c ∧ c ≤ maxLen ∧ (∃ u, w.cell? ⟨g, (l.length - 1) * 3 + 2, none⟩ = some u) ∧ w.frozen? ⟨g, (l.length - 1) * 3 + 2, none⟩ = false ∧
      OwnP (w.setCell ⟨g, (l.length - 1) * 3 + 2, none⟩ (.bool true)) base (.slice a n c) (setMany l) := by
  have hl : 0 < l.length := List.length_pos_iff.2 hne
  unfold OwnP at h
  have h' := h
  rcases h.2 with ⟨e0, e1⟩ | ⟨g, cap, cur, e0, hg, hh, h1, h2, _⟩
  · omega
  · cases e0
    refine ⟨g, rfl, hg, lt_of_block hh, rfl, h1, h2, ?_, ?_, ?_⟩
    · have hp : l[l.length - 1]? = some (l[l.length - 1]'(by omega)) := List.getElem?_eq_getElem _
      rw [h'.cellAt _ (by omega), partsV_at hp 2 (by omega)]
      exact ⟨_, rfl⟩
    · exact h'.frozenAt _
    · have := h'.stored ((l.length - 1) * 3 + 2) (.bool true)
      unfold OwnP
      rw [setMany_len, partsV_setMany l hne]
      exact this.1

def PointPost (p : ByteArray) (w : World) (e : Ending) (w' : World) : Prop :=
  Below w.heap.size w w' ∧ ((okS p = true ∧ chkS p (chkP p) = (0, 0) ∧ ∃ v, e = .returned (.tuple #[v, .nilIface]) ∧ OwnP w' w.heap.size v (patS p)) ∨
    (okS p = false ∧ ∃ u, e = .returned (.tuple #[.slice none 0 0, u]) ∧ (chkS p (chkP p)).1 ≠ 0 ∧ IsFault w' u (chkS p (chkP p)).1 (chkS p (chkP p)).2))

theorem point_end {p : ByteArray} {s : PSt} (h0 : okP p = true) (h1 : chkP p = (0, 0)) (h : prun pinit (chrs p).1 = (s, none)) : okS p = !s.escaped ∧ patS p = s.parts ∧ chkS p (chkP p) = if s.escaped = true then (10, p.size) else (0, 0) := by
  unfold okS patS chkS
  rw [h0, h1, h]
  exact ⟨by simp, rfl, by simp⟩
theorem point_bad {p : ByteArray} {s : PSt} {i : Nat} (h0 : okP p = true) (h1 : chkP p = (0, 0)) (h : prun pinit (chrs p).1 = (s, some i)) : okS p = false ∧ chkS p (chkP p) = (11, i) := by
  unfold okS chkS
  rw [h0, h1, h]
  exact ⟨by simp, by simp⟩
theorem point_fail {p : ByteArray} (h0 : okP p = false) (h1 : (chkP p).1 ≠ 0) : okS p = false ∧ chkS p (chkP p) = chkP p := by
  unfold okS chkS
  rw [h0, if_pos h1]
  exact ⟨rfl, rfl⟩

set_option maxHeartbeats 6400000 in
set_option maxRecDepth 100000 in
theorem glob_pointed (p : ByteArray) (w : World) (hU : Utf8Laid w) (hp : p.size ≤ 16777216) : Calls Tryd.prog 32 #[.string p] w (PointPost p w) := by
  go_enter Tryd.func32, Tryd.ntmps32
  go_wp2_with fail
  refine (glob_Check p _ hU hp).mono ?_
  rintro e w1 ⟨hb1, h⟩
  rcases h with ⟨hok, hck, rfl⟩ | ⟨hok, hck, v, rfl, hv⟩
  · have HOK := Lib.hid hok
    have HCK := Lib.hid hck
    have HN := Lib.hid (okP_none hok).1
    clear hok hck
    have hU1 := hU.below hb1
    go_wp2_with ((with_reducible refine wpList_bytes_sl rfl 9 27 5 _ rfl p rfl Tryd.underlying9 Tryd.underlying27 Tryd.underlying5 (by omega) ?_); intro v1 w2 hv1 hb2)
    have hb12 := Bt hb1 hb2
    have hU2 := hU1.below hb2
    refine (utf_Chars v1 p _ hU2 hp hv1).mono ?_
    rintro e w3 ⟨hb3, h⟩
    have hb13 := Bt hb12 hb3
    rcases h with ⟨_, v3, rfl, hown⟩ | ⟨i, hi, _⟩
    · obtain ⟨a, c, rfl, hc1, hc2, hsl⟩ := chars_sl hown rfl
      have hlen := chrs_len p
      have hright := right_chrs p
      have hend := fun s => point_end (s := s) HOK.out HCK.out
      have hbad := fun s i => point_bad (s := s) (i := i) HOK.out HCK.out
      generalize (chrs p).1 = cs at *
      have HRIGHT := Lib.hid hright
      have HEND := Lib.hid hend
      have HBAD := Lib.hid hbad
      unfold maxLen at hc2
      clear hown hb1 hb2 hb3 hb12 hU1 hU2 hright hend hbad
      go_wp2_with fail
      go_loopw [7, 8, 9, 10, 28] (fun v q o s x wr => ∃ (i : Nat) (parts : List GPart) (place : Nat) (op es : Bool), i ≤ cs.length ∧ x = .int .i64 i ∧ q = .int .i64 place ∧ o = .bool op ∧ s = .bool es ∧ OwnP wr w3.heap.size v parts ∧ prun pinit cs = prun ⟨parts, place, op, es⟩ (cs.drop i) ∧ (op = true → parts ≠ []) ∧ parts.length ≤ i ∧ place ≤ 4 * i ∧ Below w3.heap.size w3 wr) (fun _ _ _ _ x _ => cs.length - (intOf x).toNat)
      case atStart => exact ⟨0, [], 0, false, false, Nat.zero_le _, rfl, rfl, rfl, rfl, OwnP.nil _ _, rfl, (fun h => by cases h), Nat.le_refl _, Nat.le_refl _, Below.refl _ _⟩
      case round =>
        obtain ⟨i, parts, place, op, es, hil, rfl, rfl, rfl, rfl, hown, hrun, hne, hpl, hpla, hbr⟩ := hrel
        have HRUN := Lib.hid hrun
        have HNE := Lib.hid hne
        clear hrun hne
        have hbs := (Bt hb13 hbr).size
        have hws := hbr.size
        by_cases hlt : i < cs.length
        · obtain ⟨d, hd⟩ : ∃ d, cs[i]? = some d := ⟨_, List.getElem?_eq_getElem hlt⟩
          obtain ⟨b, rfl, hbw, hcell⟩ := (hsl.below hbr) i d hd
          have hrc := HRIGHT.out d (List.mem_of_getElem? hd)
          have hrb := (rightC_iff d).1 hrc
          have hdm : d ≤ 1114111 := by have := rightC_lt hrc; omega
          have HRB := Lib.hid hrb
          have hdr := HRUN.out
          rw [drop_one hd] at hdr
          have HDR := Lib.hid hdr
          clear hrb hrc hdr hd HRUN
          cases es with
          | true =>
            have HNEXT := Lib.hid (HDR.out.trans (prun_some pstep_esc))
            clear HDR
            have ho2 := hown.below ((Below.refl wr.heap.size wr).alloc (Nat.le_refl _) (.cells #[.int .i64 (d : Int), .bool false, .bool false] 47))
            have hbr2 := hbr.alloc hbr.size (.cells #[.int .i64 (d : Int), .bool false, .bool false] 47)
            go_wp2_with (at_builtin; refine wpList_app_part rfl (.tmp 41) (.tmp 44) rfl w3.heap.size _ _ rfl ho2 wr.heap.size 1 ⟨d, false, false⟩ rfl (heap_alloc_new wr _) (by omega) (by simp; omega) ?_)
            intro v4 w4 hown4 hg4
            have hbr4 := ho2.under hbr2 (Nat.le_refl _) hg4
            clear ho2 hbr2 hown hbr hg4
            go_wp2_with fail
            refine (utf_Put (d : Int) _).mono ?_
            rintro e w6 ⟨hb6, h6⟩
            rcases h6 with ⟨_, v6, rfl, hown6⟩ | ⟨hr6, _⟩
            · obtain ⟨a6, c6, e6⟩ := row_len hown6
              subst e6
              have hown7 := hown4.below hb6
              have hbr7 := Bt hbr4 hb6
              have hput := putL_len d
              have hp4 := (putN_len d).2
              rw [Int.toNat_natCast, hput]
              have HPUT := Lib.hid hput
              clear hown6 hput hb6
              go_wp2_with fail
              go_roundw
              case rel => exact ⟨i + 1, parts ++ [⟨d, false, false⟩], place + (putN d).length, true, false, by omega, by go_num, by go_num, rfl, rfl, hown7, HNEXT.out, (fun _ => by simp), (by simp; omega), by omega, hbr7⟩
              case measure => simp [intOf]; omega
            · have hno := HRB.out.symm.trans hr6; cases hno

          | false =>
            by_cases h92 : d = 92
            · subst h92
              have HNEXT := Lib.hid (HDR.out.trans (prun_some pstep_back))
              clear HDR
              go_wp2_with fail
              refine (utf_Put 92 _).mono ?_
              rintro e w6 ⟨hb6, h6⟩
              rcases h6 with ⟨_, v6, rfl, hown6⟩ | ⟨hr6, _⟩
              · obtain ⟨a6, c6, e6⟩ := row_len hown6
                subst e6
                have hown7 := hown.below hb6
                have hbr7 := Bt hbr hb6
                have hput := putL_len 92
                have hp4 := (putN_len 92).2
                rw [show ((92 : Int).toNat) = 92 from rfl, hput]
                have HPUT := Lib.hid hput
                clear hown6 hput hb6
                go_wp2_with fail
                go_roundw
                case rel => exact ⟨i + 1, parts, place + (putN 92).length, op, true, by omega, by go_num, by go_num, rfl, rfl, hown7, HNEXT.out, HNE.out, by omega, by omega, hbr7⟩
                case measure => simp [intOf]; omega
              · have hno := HRB.out.symm.trans hr6; cases hno

            · have e1 : ((d : Int) == 92) = false := by rw [beq_eq_false_iff_ne]; omega
              by_cases h42 : d = 42
              · subst h42
                cases op with
                | true =>
                  have HNEXT := Lib.hid (HDR.out.trans (prun_some pstep_star))
                  clear HDR
                  have hl0 := HNE.out rfl
                  have hlp : 0 < parts.length := List.length_pos_iff.2 hl0
                  have hsm := setMany_len parts
                  have hsn : setMany parts ≠ [] := fun e => by rw [e] at hsm; simp at hsm; omega
                  obtain ⟨a4, c4, e4⟩ := row_len hown
                  subst e4
                  obtain ⟨g, rfl, hg1, hg2, hg3, hg4, hg5, ⟨u5, hg6⟩, hg7, hg8⟩ := hown.many hl0
                  have hbr4 := hbr.setCell (p := ⟨g, (parts.length - 1) * 3 + 2, none⟩) hg1 (.bool true)
                  have HSM := Lib.hid hsm
                  have HSN := Lib.hid hsn
                  clear hsm hsn hl0 hown hg3
                  unfold maxLen at hg5
                  go_wp2_with fail
                  refine (utf_Put 42 _).mono ?_
                  rintro e w6 ⟨hb6, h6⟩
                  rcases h6 with ⟨_, v6, rfl, hown6⟩ | ⟨hr6, _⟩
                  · obtain ⟨a6, c6, e6⟩ := row_len hown6
                    subst e6
                    have hown7 := hg8.below hb6
                    have hbr7 := Bt hbr4 hb6
                    have hput := putL_len 42
                    have hp4 := (putN_len 42).2
                    rw [show ((42 : Int).toNat) = 42 from rfl, hput]
                    have HPUT := Lib.hid hput
                    clear hown6 hput hb6
                    go_wp2_with fail
                    go_roundw
                    case rel => exact ⟨i + 1, setMany parts, place + (putN 42).length, false, false, by omega, by go_num, by go_num, rfl, rfl, hown7, HNEXT.out, (fun h => by cases h), (by rw [HSM.out]; omega), by omega, hbr7⟩
                    case measure => simp [intOf]; omega
                  · have hno := HRB.out.symm.trans hr6; cases hno

                | false =>
                  have HX := Lib.hid (HBAD.out _ _ (HDR.out.trans (prun_none pstep_bad)))
                  clear HDR
                  go_wp2_with fail
                  refine (api_Fail' 11 (place : Int) _).mono ?_
                  rintro e w6 ⟨v6, rfl, hv6, hb6⟩
                  have hb7 := Bt (Bt hb13 hbr) hb6
                  go_wp2_with fail
                  go_ret2
                  exact ⟨hb7, .inr ⟨HX.out.1, v6, rfl, by rw [HX.out.2]; simp, by rw [HX.out.2]; exact hv6⟩⟩
              · have HNEXT := Lib.hid (HDR.out.trans (prun_some (pstep_char h92 h42)))
                have e2 : ((d : Int) == 42) = false := by rw [beq_eq_false_iff_ne]; omega
                clear HDR
                have e3 : ((d : Int) == 46) = decide (d = 46) := by rw [Bool.eq_iff_iff]; simp; omega
                have ho2 := hown.below ((Below.refl wr.heap.size wr).alloc (Nat.le_refl _) (.cells #[.int .i64 (d : Int), .bool (decide (d = 46)), .bool false] 47))
                have hbr2 := hbr.alloc hbr.size (.cells #[.int .i64 (d : Int), .bool (decide (d = 46)), .bool false] 47)
                go_wp2_with (at_builtin; refine wpList_app_part rfl (.tmp 32) (.tmp 37) rfl w3.heap.size _ _ rfl ho2 wr.heap.size 1 ⟨d, decide (d = 46), false⟩ rfl (heap_alloc_new wr _) (by omega) (by simp; omega) ?_)
                intro v4 w4 hown4 hg4
                have hbr4 := ho2.under hbr2 (Nat.le_refl _) hg4
                clear ho2 hbr2 hown hbr hg4
                go_wp2_with fail
                refine (utf_Put (d : Int) _).mono ?_
                rintro e w6 ⟨hb6, h6⟩
                rcases h6 with ⟨_, v6, rfl, hown6⟩ | ⟨hr6, _⟩
                · obtain ⟨a6, c6, e6⟩ := row_len hown6
                  subst e6
                  have hown7 := hown4.below hb6
                  have hbr7 := Bt hbr4 hb6
                  have hput := putL_len d
                  have hp4 := (putN_len d).2
                  rw [Int.toNat_natCast, hput]
                  have HPUT := Lib.hid hput
                  clear hown6 hput hb6
                  go_wp2_with fail
                  go_roundw
                  case rel => exact ⟨i + 1, parts ++ [⟨d, decide (d = 46), false⟩], place + (putN d).length, true, false, by omega, by go_num, by go_num, rfl, rfl, hown7, HNEXT.out, (fun _ => by simp), (by simp; omega), by omega, hbr7⟩
                  case measure => simp [intOf]; omega
                · have hno := HRB.out.symm.trans hr6; cases hno

        · obtain rfl : i = cs.length := by omega
          have hfin := HRUN.out
          rw [List.drop_eq_nil_of_le (Nat.le_refl _)] at hfin
          obtain ⟨k1, k2, k3⟩ := HEND.out _ hfin
          have hb4 := Bt hb13 hbr
          have hown5 : OwnP wr w.heap.size _ parts := ownsRow_base hown hb13.size
          clear hown hfin
          cases es with
          | true =>
            have K1 := Lib.hid k1
            have K3 := Lib.hid k3
            clear k1 k2 k3
            go_wp2_with fail
            refine (api_Fail' 10 (p.size : Int) _).mono ?_
            rintro e w6 ⟨v6, rfl, hv6, hb6⟩
            have hb7 := Bt hb4 hb6
            go_wp2_with fail
            go_ret2
            exact ⟨hb7, .inr ⟨K1.out, v6, rfl, by rw [K3.out]; simp, by rw [K3.out]; exact hv6⟩⟩
          | false =>
            have K1 := Lib.hid k1
            have K2 := Lib.hid k2
            have K3 := Lib.hid k3
            clear k1 k2 k3
            go_wp2_with fail
            go_ret2
            exact ⟨hb4, .inl ⟨K1.out, K3.out, _, rfl, by rw [K2.out]; exact hown5⟩⟩
    · rw [HN.out] at hi; cases hi
  · obtain ⟨k1, k2⟩ := point_fail hok hck
    have hv' := hv
    obtain ⟨u, rfl⟩ := hv.ne_nil
    have K1 := Lib.hid k1
    have K2 := Lib.hid k2
    have HV := Lib.hid hv'
    have HCK := Lib.hid hck
    clear hok hck k1 k2 hv hv'
    go_wp2_with fail
    go_ret2
    exact ⟨hb1, .inr ⟨K1.out, _, rfl, by rw [K2.out]; exact HCK.out, by rw [K2.out]; exact HV.out⟩⟩
end Go.Proofs.YtlnnimmiifdnnaaDoor
