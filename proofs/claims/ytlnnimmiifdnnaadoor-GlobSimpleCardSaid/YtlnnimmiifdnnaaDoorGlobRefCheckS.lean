/- The reference's CheckSimple. -/
import Derived.Test.YtlnnimmiifdnnaaDoorPointRef
import Derived.Test.YtlnnimmiifdnnaaDoorGlobRefMatch
namespace Go.Proofs.YtlnnimmiifdnnaaDoor
open Go.RowKit

theorem ret_two {a b c d : Nat} (h : (a, b) = (c, d)) : Ending.returned (.tuple #[.int .i64 (c : Int), .int .i64 (d : Int)]) = .returned (.tuple #[.int .i64 (a : Int), .int .i64 (b : Int)]) := by cases h; rfl
theorem ret_pair {q : Nat × Nat} {c d : Nat} (h : q = (c, d)) : Ending.returned (.tuple #[.int .i64 (c : Int), .int .i64 (d : Int)]) = .returned (.tuple #[.int .i64 (q.1 : Int), .int .i64 (q.2 : Int)]) := by rw [h]
theorem put_len' (n : Nat) : ((putL n).length : Nat) = (putN n).length := putL_len n
def RCheckSPost (p : ByteArray) (w : World) (e : Ending) (w' : World) : Prop := Below w.heap.size w w' ∧ e = .returned (.tuple #[.int .i64 ((chkS p (chkP p)).1 : Int), .int .i64 ((chkS p (chkP p)).2 : Int)])
theorem chkS_fail {p : ByteArray} {k : Nat × Nat} (h : k.1 ≠ 0) : chkS p k = k := by unfold chkS; rw [if_pos h]
theorem okP_zero {p : ByteArray} (h : (chkP p).1 = 0) : chkP p = (0, 0) ∧ (chrs p).2 = none := by
  have h2 := (okP_none ((chkP_ok p).1 h))
  unfold chkP
  rw [if_neg (by omega), h2.1]
  exact ⟨rfl, rfl⟩

set_option maxHeartbeats 6400000 in
set_option maxRecDepth 100000 in
theorem ref_CheckSimple (p : ByteArray) (w : World) (hp : p.size ≤ 16777216) : Calls Tryd.prog 16 #[.string p] w (RCheckSPost p w) := by
  go_enter Tryd.func16, Tryd.ntmps16
  go_wp2_with fail
  refine (ref_Check p _ hp).mono ?_
  rintro e w1 ⟨hb1, rfl⟩
  by_cases hk0 : (chkP p).1 = 0
  · obtain ⟨hkk, hcn⟩ := okP_zero hk0
    rw [hkk]
    have HK := Lib.hid hkk
    clear hk0 hkk
    go_wp2_with ((with_reducible refine wpList_bytes_sl rfl 9 27 5 _ rfl p rfl Tryd.underlying9 Tryd.underlying27 Tryd.underlying5 (by omega) ?_); intro v2 w2 hv2 hb2)
    have hb12 := Bt hb1 hb2
    refine (ref_Chars v2 p _ hp hv2).mono ?_
    rintro e w3 ⟨hb3, hcp⟩
    have hb13 := Bt hb12 hb3
    clear hb1 hb2 hb3 hb12
    rcases hcp with ⟨_, v6, rfl, hown⟩ | ⟨i, hi, a3, rfl⟩
    rotate_left
    · rw [hcn] at hi; cases hi
    obtain ⟨pa, pc, rfl, hpc1, hpc2, hpsl⟩ := chars_sl hown rfl
    have hpl := chrs_len p
    have HPLE := Lib.hid (@chrs_le p)
    have HE := Lib.hid (fun s h he => chk_end (p := p) (s := s) HK.out h he)
    have HS := Lib.hid (fun s h he => chk_short (p := p) (s := s) HK.out h he)
    have HB := Lib.hid (fun s i h => chk_bad (p := p) (s := s) (i := i) HK.out h)
    have hr0 : RSt (chrs p).1 0 0 [] := RSt.zero
    generalize hkq : chkS p (chkP p) = kk at *
    have HKK := Lib.hid hkq
    clear hkq
    generalize (chrs p).1 = l at *
    unfold maxLen at hpc2
    clear hown hcn HK
    go_wp2_with fail
    go_loopw [8, 9] (fun n x wr => ∃ i pl : Nat, i ≤ l.length ∧ pl ≤ 8 * i ∧ x = .int .i64 i ∧ n = .int .i64 pl ∧ (∃ ps, RSt l i pl ps) ∧ Below w3.heap.size w3 wr) (fun _ x _ => l.length - (intOf x).toNat)
    case atStart => exact ⟨0, 0, Nat.zero_le _, Nat.zero_le _, rfl, rfl, ⟨_, hr0⟩, Below.refl _ _⟩
    case round =>
      obtain ⟨i, pl, hil, hpl8, rfl, rfl, ⟨ps, hst⟩, hbr⟩ := hrel
      clear hr0
      by_cases hlt : i < l.length
      · obtain ⟨c, hc⟩ : ∃ c, l[i]? = some c := ⟨_, List.getElem?_eq_getElem hlt⟩
        have hcm := HPLE.out c (List.mem_of_getElem? hc)
        obtain ⟨lb, rfl, hlb, hlc⟩ := (hpsl.below hbr) i c hc
        by_cases h42 : c = 42
        · subst h42
          obtain ⟨s, hs⟩ := hst.bad hc
          have HF := Lib.hid (HB.out s pl hs)
          have hb4 := Bt hb13 hbr
          clear hs hc hst
          go_wp2_with fail
          go_ret2
          exact ⟨hb4, ret_pair (HKK.out.trans HF.out)⟩
        · have e42 : ((c : Int) == 42) = false := by rw [beq_eq_false_iff_ne]; omega
          by_cases h92 : c = 92
          · subst h92
            by_cases hend : i + 1 = l.length
            · obtain ⟨s, hs, he⟩ := hst.short hc hend
              have HF := Lib.hid (HS.out s hs he)
              have hb4 := Bt hb13 hbr
              have eend : ((i : Int) + 1 == (l.length : Int)) = true := by rw [beq_iff_eq]; omega
              clear hs hc hst he
              go_wp2_with fail
              go_ret2
              exact ⟨hb4, ret_pair (HKK.out.trans HF.out)⟩
            · have eend : ((i : Int) + 1 == (l.length : Int)) = false := by rw [beq_eq_false_iff_ne]; omega
              obtain ⟨d, hd⟩ : ∃ d, l[i + 1]? = some d := ⟨_, List.getElem?_eq_getElem (by omega)⟩
              have hdm := HPLE.out d (List.mem_of_getElem? hd)
              have hlt1 : i + 1 < l.length := by omega
              obtain ⟨lb1, elb, hlb1, hld⟩ := (hpsl.below hbr) (i + 1) d hd
              cases elb
              obtain ⟨hx1, hx2⟩ := hst.esc hc hd
              have HX1 := Lib.hid hx1
              have HX2 := Lib.hid hx2
              have hpn : (putN d).length ≤ 4 := (putN_len d).2
              clear hx1 hx2 hc hd hst
              go_wp2_with fail
              refine (ref_Put d (by omega) _).mono ?_
              rintro e w4 ⟨rfl, hb4, hB4, _⟩
              have hbr4 := Bt hbr hb4
              have hplen := put_len' d
              rw [hplen]
              clear hB4 hplen hlc hld
              generalize (putN d).length = nd at *
              by_cases hst2 : l[i + 2]? = some 42
              · have hlt2 : i + 2 < l.length := (List.getElem?_eq_some_iff.1 hst2).1
                obtain ⟨lb2, elb, hlb2, hle⟩ := (hpsl.below hbr4) (i + 2) 42 hst2
                cases elb
                have HR := Lib.hid (HX1.out hst2)
                have dlt : decide ((i : Int) + 1 + 1 < (l.length : Int)) = true := decide_eq_true (by omega)
                clear hst2
                go_wp2_with fail
                go_roundw
                case rel => exact ⟨i + 3, pl + 1 + nd + 1, by omega, by omega, by go_num, by go_num, ⟨_, HR.out⟩, hbr4⟩
                case measure => simp [intOf]; omega
              · have HR := Lib.hid (HX2.out hst2)
                by_cases hlt2 : i + 2 < l.length
                · obtain ⟨g, hg⟩ : ∃ g, l[i + 2]? = some g := ⟨_, List.getElem?_eq_getElem hlt2⟩
                  obtain ⟨lb2, elb, hlb2, hle⟩ := (hpsl.below hbr4) (i + 2) g hg
                  cases elb
                  have eg : ((g : Int) == 42) = false := by rw [beq_eq_false_iff_ne]; intro h; apply hst2; rw [hg]; congr 1; omega
                  have dlt : decide ((i : Int) + 1 + 1 < (l.length : Int)) = true := decide_eq_true (by omega)
                  clear hst2 hg
                  go_wp2_with fail
                  go_roundw
                  case rel => exact ⟨i + 2, pl + 1 + nd, by omega, by omega, by go_num, by go_num, ⟨_, HR.out⟩, hbr4⟩
                  case measure => simp [intOf]; omega
                · have dlt : decide ((i : Int) + 1 + 1 < (l.length : Int)) = false := decide_eq_false (by omega)
                  clear hst2
                  go_wp2_with fail
                  go_roundw
                  case rel => exact ⟨i + 2, pl + 1 + nd, by omega, by omega, by go_num, by go_num, ⟨_, HR.out⟩, hbr4⟩
                  case measure => simp [intOf]; omega
          · have e92 : ((c : Int) == 92) = false := by rw [beq_eq_false_iff_ne]; omega
            obtain ⟨hx1, hx2⟩ := hst.char hc h92 h42
            have HX1 := Lib.hid hx1
            have HX2 := Lib.hid hx2
            have hpn : (putN c).length ≤ 4 := (putN_len c).2
            clear hx1 hx2 hc hst
            go_wp2_with fail
            refine (ref_Put c (by omega) _).mono ?_
            rintro e w4 ⟨rfl, hb4, hB4, _⟩
            have hbr4 := Bt hbr hb4
            have hplen := put_len' c
            rw [hplen]
            clear hB4 hplen hlc
            generalize (putN c).length = nd at *
            by_cases hst2 : l[i + 1]? = some 42
            · have hlt2 : i + 1 < l.length := (List.getElem?_eq_some_iff.1 hst2).1
              obtain ⟨lb2, elb, hlb2, hle⟩ := (hpsl.below hbr4) (i + 1) 42 hst2
              cases elb
              have HR := Lib.hid (HX1.out hst2)
              have dlt : decide ((i : Int) + 1 < (l.length : Int)) = true := decide_eq_true (by omega)
              clear hst2
              go_wp2_with fail
              go_roundw
              case rel => exact ⟨i + 2, pl + nd + 1, by omega, by omega, by go_num, by go_num, ⟨_, HR.out⟩, hbr4⟩
              case measure => simp [intOf]; omega
            · have HR := Lib.hid (HX2.out hst2)
              by_cases hlt2 : i + 1 < l.length
              · obtain ⟨g, hg⟩ : ∃ g, l[i + 1]? = some g := ⟨_, List.getElem?_eq_getElem hlt2⟩
                obtain ⟨lb2, elb, hlb2, hle⟩ := (hpsl.below hbr4) (i + 1) g hg
                cases elb
                have eg : ((g : Int) == 42) = false := by rw [beq_eq_false_iff_ne]; intro h; apply hst2; rw [hg]; congr 1; omega
                have dlt : decide ((i : Int) + 1 < (l.length : Int)) = true := decide_eq_true (by omega)
                clear hst2 hg
                go_wp2_with fail
                go_roundw
                case rel => exact ⟨i + 1, pl + nd, by omega, by omega, by go_num, by go_num, ⟨_, HR.out⟩, hbr4⟩
                case measure => simp [intOf]; omega
              · have dlt : decide ((i : Int) + 1 < (l.length : Int)) = false := decide_eq_false (by omega)
                clear hst2
                go_wp2_with fail
                go_roundw
                case rel => exact ⟨i + 1, pl + nd, by omega, by omega, by go_num, by go_num, ⟨_, HR.out⟩, hbr4⟩
                case measure => simp [intOf]; omega
      · obtain rfl : i = l.length := by omega
        obtain ⟨s, hs, he, _⟩ := hst.done
        have HF := Lib.hid (HE.out s hs he)
        have hb4 := Bt hb13 hbr
        clear hs he hst
        go_wp2_with fail
        go_ret2
        exact ⟨hb4, ret_pair (HKK.out.trans HF.out)⟩
  · have HF := Lib.hid (chkS_fail (p := p) (k := chkP p) hk0)
    generalize hkk : chkP p = kk at *
    obtain ⟨k0, k1⟩ := kk
    have e3 : ((k0 : Int) != 0) = true := by rw [bne_iff_ne]; simp only at hk0; omega
    have HKK := Lib.hid hkk
    clear hkk hk0
    go_wp2_with fail
    go_ret2
    exact ⟨hb1, by rw [HKK.out]; exact ret_pair HF.out⟩
end Go.Proofs.YtlnnimmiifdnnaaDoor
