/- glob.plain: the parts of a pattern. -/
import Derived.Test.YtakcfgmibijdnaaGreatDoorQueryWritesM14
import Derived.Test.YtakcfgmibijdnaaGreatDoorQueryWritesM15
import Derived.Test.YtakcfgmibijdnaaGreatDoorQueryWritesM16
import Derived.Test.YtakcfgmibijdnaaGreatDoorQueryWritesM10
import Derived.Test.YtakcfgmibijdnaaGreatDoorQueryWritesM13

namespace Go.Proofs.YtakcfgmibijdnaaGreatDoor
open Go.RowKit

theorem patP_len (p : ByteArray) : (patP p).length ≤ p.size := by unfold patP; rw [List.length_map]; exact chrs_len p
theorem okP_none {p : ByteArray} (h : okP p = true) : (chrs p).2 = none ∧ p.size ≤ 1024 := by
  unfold okP at h
  rw [Bool.and_eq_true, decide_eq_true_iff, Option.isNone_iff_eq_none] at h
  exact ⟨h.2, h.1⟩
def PlainPost (p : ByteArray) (w : World) (e : Ending) (w' : World) : Prop :=
  Below w.heap.size w w' ∧ ((okP p = true ∧ ∃ v, e = .returned (.tuple #[v, .nilIface]) ∧ OwnP w' w.heap.size v (patP p)) ∨ (okP p = false ∧ ∃ u, e = .returned (.tuple #[.slice none 0 0, .iface 78 u])))

theorem map_take_one {cs : List Nat} {i c : Nat} (h : cs[i]? = some c) : (cs.take i).map partOf ++ [partOf c] = (cs.take (i + 1)).map partOf := by
  obtain ⟨hi, rfl⟩ := List.getElem?_eq_some_iff.1 h
  rw [List.take_succ_eq_append_getElem hi, List.map_append]; rfl

set_option maxHeartbeats 1600000 in
set_option maxRecDepth 100000 in
theorem glob_plain (p : ByteArray) (w : World) (hU : Utf8Laid w) (hp : p.size ≤ 16777216) : Calls Tryz.prog 90 #[.string p] w (PlainPost p w) := by
  go_enter Tryz.func90, Tryz.ntmps90
  go_wp2_with fail
  refine (glob_Check p _ hU hp).mono ?_
  rintro e w1 ⟨hb1, h⟩
  rcases h with ⟨hok, _, rfl⟩ | ⟨hok, _, v, rfl, hv⟩
  · have HOK := Lib.hid hok
    have HN := Lib.hid (okP_none hok).1
    clear hok
    have hU1 := hU.below hb1
    go_wp2_with ((with_reducible refine wpList_bytes_sl rfl 9 56 5 _ rfl p rfl Tryz.underlying9 Tryz.underlying56 Tryz.underlying5 (by omega) ?_); intro v1 w2 hv1 hb2)
    have hb12 := Bt hb1 hb2
    have hU2 := hU1.below hb2
    refine (utf_Chars v1 p _ hU2 hp hv1).mono ?_
    rintro e w3 ⟨hb3, h⟩
    have hb13 := Bt hb12 hb3
    rcases h with ⟨_, v3, rfl, hown⟩ | ⟨i, hi, _⟩
    · obtain ⟨a, c, rfl, hc1, hc2, hsl⟩ := chars_sl hown rfl
      have hlen := chrs_len p
      have hpat : patP p = (chrs p).1.map partOf := rfl
      have hpl := patP_len p
      rw [hpat] at hpl
      generalize (chrs p).1 = cs at *
      have HPAT := Lib.hid hpat
      unfold maxLen at hc2
      clear hown hb1 hb2 hb3 hb12 hU1 hU2 hpat
      go_wp2_with fail
      go_loopw [7, 23] (fun v x wr => ∃ i : Nat, i ≤ cs.length ∧ x = .int .i64 i ∧ OwnP wr w3.heap.size v ((cs.take i).map partOf) ∧ Below w3.heap.size w3 wr) (fun _ x _ => cs.length - (intOf x).toNat)
      case atStart => exact ⟨0, Nat.zero_le _, rfl, OwnP.nil _ _, Below.refl _ _⟩
      case round =>
        obtain ⟨i, hil, rfl, hown, hbr⟩ := hrel
        by_cases hlt : i < cs.length
        · obtain ⟨d, hd⟩ : ∃ d, cs[i]? = some d := ⟨_, List.getElem?_eq_getElem hlt⟩
          obtain ⟨b, rfl, hbw, hcell⟩ := (hsl.below hbr) i d hd
          have hmt := map_take_one hd
          have hdl : ((cs.take i).map partOf).length ≤ 16777216 := by rw [List.length_map]; have := List.length_take_le i cs; omega
          have hbs := (Bt hb13 hbr).size
          generalize (cs.take i).map partOf = done at *
          have hws := hbr.size
          by_cases h42 : d = 42
          · subst h42
            have HMT := Lib.hid hmt
            clear hmt hd
            have ho2 := hown.below ((Below.refl wr.heap.size wr).alloc (Nat.le_refl _) (.cells #[.int .i64 0, .bool true, .bool true] 190))
            have hbr2 := hbr.alloc hbr.size (.cells #[.int .i64 0, .bool true, .bool true] 190)
            go_wp2_with (at_builtin; refine wpList_app_part rfl (.tmp 35) (.tmp 37) rfl w3.heap.size _ _ rfl ho2 wr.heap.size 1 ⟨0, true, true⟩ rfl (heap_alloc_new wr _) (by omega) (by simp; omega) ?_)
            intro v4 w4 hown4 hg4
            have hbr4 := ho2.under hbr2 (Nat.le_refl _) hg4
            clear ho2 hbr2 hown hbr hg4
            go_wp2_with fail
            go_roundw
            case rel => exact ⟨i + 1, by omega, by go_num, by rw [← HMT.out]; exact hown4, hbr4⟩
            case measure => simp [intOf]; omega
          · have e1 : ((d : Int) == 42) = false := by rw [beq_eq_false_iff_ne]; omega
            by_cases h63 : d = 63
            · subst h63
              have HMT := Lib.hid hmt
              clear hmt hd h42
              have ho2 := hown.below ((Below.refl wr.heap.size wr).alloc (Nat.le_refl _) (.cells #[.int .i64 0, .bool true, .bool false] 190))
              have hbr2 := hbr.alloc hbr.size (.cells #[.int .i64 0, .bool true, .bool false] 190)
              go_wp2_with (at_builtin; refine wpList_app_part rfl (.tmp 41) (.tmp 43) rfl w3.heap.size _ _ rfl ho2 wr.heap.size 1 ⟨0, true, false⟩ rfl (heap_alloc_new wr _) (by omega) (by simp; omega) ?_)
              intro v4 w4 hown4 hg4
              have hbr4 := ho2.under hbr2 (Nat.le_refl _) hg4
              clear ho2 hbr2 hown hbr hg4
              go_wp2_with fail
              go_roundw
              case rel => exact ⟨i + 1, by omega, by go_num, by rw [← HMT.out]; exact hown4, hbr4⟩
              case measure => simp [intOf]; omega
            · have e2 : ((d : Int) == 63) = false := by rw [beq_eq_false_iff_ne]; omega
              rw [partOf_char h42 h63] at hmt
              have HMT := Lib.hid hmt
              clear hmt hd h42 h63
              have ho2 := hown.below ((Below.refl wr.heap.size wr).alloc (Nat.le_refl _) (.cells #[.int .i64 (d : Int), .bool false, .bool false] 190))
              have hbr2 := hbr.alloc hbr.size (.cells #[.int .i64 (d : Int), .bool false, .bool false] 190)
              go_wp2_with (at_builtin; refine wpList_app_part rfl (.tmp 28) (.tmp 31) rfl w3.heap.size _ _ rfl ho2 wr.heap.size 1 ⟨d, false, false⟩ rfl (heap_alloc_new wr _) (by omega) (by simp; omega) ?_)
              intro v4 w4 hown4 hg4
              have hbr4 := ho2.under hbr2 (Nat.le_refl _) hg4
              clear ho2 hbr2 hown hbr hg4
              go_wp2_with fail
              go_roundw
              case rel => exact ⟨i + 1, by omega, by go_num, by rw [← HMT.out]; exact hown4, hbr4⟩
              case measure => simp [intOf]; omega
        · obtain rfl : i = cs.length := by omega
          rw [List.take_length, ← HPAT.out] at hown
          have hb4 := Bt hb13 hbr
          have hown5 := ownsRow_base hown hb13.size
          clear hown
          go_wp2_with fail
          go_ret2
          exact ⟨hb4, .inl ⟨HOK.out, _, rfl, hown5⟩⟩
    · rw [HN.out] at hi; cases hi
  · obtain ⟨u, rfl⟩ := hv.ne_nil
    have HOK := Lib.hid hok
    clear hok
    go_wp2_with fail
    go_ret2
    exact ⟨hb1, .inr ⟨HOK.out, u, rfl⟩⟩
end Go.Proofs.YtakcfgmibijdnaaGreatDoor

/- glob.Match, glob.Simple, glob.CheckSimple, glob.Lead, glob.Least. -/
namespace Go.Proofs.YtakcfgmibijdnaaGreatDoor
open Go.RowKit

theorem chrs_le {s : ByteArray} : ∀ c ∈ (chrs s).1, c ≤ 1114111 := fun c hc => by have := rightC_lt (right_chrs s c hc); omega
theorem patP_le {p : ByteArray} : ∀ q ∈ patP p, q.char ≤ 1114111 := by
  intro q hq
  unfold patP at hq
  obtain ⟨c, hc, rfl⟩ := List.mem_map.1 hq
  have := chrs_le c hc
  unfold partOf
  repeat' split
  all_goals (simp; try omega)
theorem prun_le (l : List Nat) (h : ∀ c ∈ l, c ≤ 1114111) : ∀ s : PSt, (∀ q ∈ s.parts, q.char ≤ 1114111) → ∀ q ∈ (prun s l).1.parts, q.char ≤ 1114111 := by
  induction l with
  | nil => intro s hs; exact hs
  | cons c l ih =>
    intro s hs
    have hc := h c (by simp)
    have hl : ∀ c ∈ l, c ≤ 1114111 := fun d hd => h d (by simp [hd])
    unfold prun
    have hm : ∀ k : List GPart, (∀ q ∈ k, q.char ≤ 1114111) → ∀ q ∈ setMany k, q.char ≤ 1114111 := by
      intro k
      induction k with
      | nil => intro hk q hq; cases hq
      | cons x k ihk =>
        intro hk q hq
        cases k with
        | nil =>
          have : q = ⟨x.char, x.wild, true⟩ := by simpa [setMany] using hq
          subst this
          exact hk x (by simp)
        | cons y r =>
          rcases List.mem_cons.1 hq with rfl | hq
          · exact hk _ (by simp)
          · exact ihk (fun z hz => hk z (by simp [hz])) q hq
    have ha : ∀ q ∈ s.parts ++ [⟨c, false, false⟩], GPart.char q ≤ 1114111 := fun q hq => by
      rcases List.mem_append.1 hq with hq | hq
      · exact hs q hq
      · simp at hq; subst hq; exact hc
    have hb : ∀ q ∈ s.parts ++ [⟨c, decide (c = 46), false⟩], GPart.char q ≤ 1114111 := fun q hq => by
      rcases List.mem_append.1 hq with hq | hq
      · exact hs q hq
      · simp at hq; subst hq; exact hc
    unfold pstep
    by_cases h1 : s.escaped = true
    · rw [if_pos h1]; exact ih hl _ ha
    · rw [if_neg h1]
      by_cases h2 : c = 92
      · rw [if_pos h2]; exact ih hl _ hs
      · rw [if_neg h2]
        by_cases h3 : c = 42
        · rw [if_pos h3]
          by_cases h4 : s.opened = true
          · rw [if_pos h4]; exact ih hl _ (hm _ hs)
          · rw [if_neg h4]; exact hs
        · rw [if_neg h3]; exact ih hl _ hb
theorem patS_le {p : ByteArray} : ∀ q ∈ patS p, q.char ≤ 1114111 := prun_le _ chrs_le pinit (fun q hq => by cases hq)
theorem prun_len (l : List Nat) : ∀ s : PSt, (prun s l).1.parts.length ≤ s.parts.length + l.length := by
  induction l with
  | nil => intro s; exact Nat.le_refl _
  | cons c l ih =>
    intro s
    unfold prun pstep
    by_cases h1 : s.escaped = true
    · rw [if_pos h1]; refine Nat.le_trans (ih _) ?_; first | (simp; done) | (simp; omega)
    · rw [if_neg h1]
      by_cases h2 : c = 92
      · rw [if_pos h2]; refine Nat.le_trans (ih _) ?_; first | (simp; done) | (simp; omega)
      · rw [if_neg h2]
        by_cases h3 : c = 42
        · rw [if_pos h3]
          by_cases h4 : s.opened = true
          · rw [if_pos h4]; refine Nat.le_trans (ih _) ?_; first | (simp [setMany_len]; done) | (simp [setMany_len]; omega)
          · rw [if_neg h4]; exact Nat.le_add_right _ _
        · rw [if_neg h3]; refine Nat.le_trans (ih _) ?_; first | (simp; done) | (simp; omega)
theorem patS_len (p : ByteArray) : (patS p).length ≤ p.size := by
  have h1 := prun_len (chrs p).1 pinit
  have h2 := chrs_len p
  have h3 : pinit.parts.length = 0 := rfl
  unfold patS; omega

theorem matchB_no {p s : ByteArray} {f : Bool} (h : okP p = false) : matchB p s f = false := by unfold matchB; rw [h]; rfl
theorem matchB_bad {p s : ByteArray} {f : Bool} {i : Nat} (h : (chrs s).2 = some i) : matchB p s f = false := by unfold matchB; rw [h]; simp
theorem matchB_run {p s : ByteArray} {f : Bool} (h : okP p = true) (h2 : (chrs s).2 = none) : matchB p s f = langB f (patP p) (chrs s).1 := by unfold matchB; rw [h, h2]; rfl
theorem simpleB_no {p s : ByteArray} (h : okSim p = false) : simpleB p s = false := by unfold simpleB; rw [h]; rfl
theorem simpleB_run {p s : ByteArray} (h : okSim p = true) (h2 : (chrs s).2 = none) : simpleB p s = langB false (patS p) (chrs s).1 := by unfold simpleB; rw [h, h2]; rfl

set_option maxHeartbeats 1600000 in
set_option maxRecDepth 100000 in
theorem glob_Match (p s : ByteArray) (f : Bool) (w : World) (hU : Utf8Laid w) (hp : p.size ≤ 16777216) (hs : s.size ≤ 16777216) :
    Calls Tryz.prog 51 #[.string p, .string s, .bool f] w fun e w' => e = .returned (.bool (matchB p s f)) ∧ Below w.heap.size w w' := by
  go_enter Tryz.func51, Tryz.ntmps51
  go_wp2_with fail
  refine (glob_plain p _ hU hp).mono ?_
  rintro e w1 ⟨hb1, h⟩
  have hU1 := hU.below hb1
  rcases h with ⟨hok, v, rfl, hown⟩ | ⟨hok, u, rfl⟩
  · have HOK := Lib.hid hok
    clear hok
    have hpl := patP_len p
    go_wp2_with ((with_reducible refine wpList_bytes_sl rfl 9 56 5 _ rfl s rfl Tryz.underlying9 Tryz.underlying56 Tryz.underlying5 (by omega) ?_); intro v1 w2 hv1 hb2)
    have hb12 := Bt hb1 hb2
    refine (utf_Chars v1 s _ (hU1.below hb2) hs hv1).mono ?_
    rintro e w3 ⟨hb3, h⟩
    have hb13 := Bt hb12 hb3
    have hown3 := (hown.below hb2).below hb3
    rcases h with ⟨hn, v3, rfl, hownc⟩ | ⟨i, hi, v3, rfl, hv3⟩
    · obtain ⟨a, c, rfl, hc1, hc2, hsl⟩ := chars_sl hownc rfl
      obtain ⟨a4, c4, e4⟩ := row_len hown3
      subst e4
      obtain ⟨_, hc3, hc4, hpsl⟩ := hown3.sl
      have hlen := chrs_len s
      have HV := Lib.hid (matchB_run (f := f) HOK.out hn)
      have hrun := fun W h1 h2 => glob_run a4 a (patP p).length c4 (chrs s).1.length c (patP p) (chrs s).1 f W rfl rfl (by omega) (by omega) h1 h2 patP_le chrs_le
      have HRUN := Lib.hid hrun
      generalize (chrs s).1 = cs at *
      generalize patP p = ps at *
      clear hn hown3 hownc hown hb1 hb2 hb3 hb12 hrun
      go_wp2_with fail
      refine (HRUN.out _ hpsl hsl).mono ?_
      rintro e w4 ⟨rfl, hb4⟩
      have hb5 := Bt hb13 hb4
      go_wp2_with fail
      go_ret
      exact ⟨ret_bool HV.out.symm, hb5⟩
    · obtain ⟨q, rfl⟩ := hv3.ne_nil
      have HV := Lib.hid (matchB_bad (p := p) (f := f) hi)
      clear hi
      go_wp2_with fail
      go_ret
      exact ⟨ret_bool HV.out.symm, hb13⟩
  · have HV := Lib.hid (matchB_no (s := s) (f := f) hok)
    clear hok
    go_wp2_with ((with_reducible refine wpList_bytes_sl rfl 9 56 5 _ rfl s rfl Tryz.underlying9 Tryz.underlying56 Tryz.underlying5 (by omega) ?_); intro v1 w2 hv1 hb2)
    have hb12 := Bt hb1 hb2
    refine (utf_Chars v1 s _ (hU1.below hb2) hs hv1).mono ?_
    rintro e w3 ⟨hb3, h⟩
    have hb13 := Bt hb12 hb3
    rcases h with ⟨hn, v3, rfl, hownc⟩ | ⟨i, hi, v3, rfl, hv3⟩
    · clear hn hownc
      go_wp2_with fail
      go_ret
      exact ⟨ret_bool HV.out.symm, hb13⟩
    · clear hi hv3
      go_wp2_with fail
      go_ret
      exact ⟨ret_bool HV.out.symm, hb13⟩

def CheckSPost (p : ByteArray) (w : World) (e : Ending) (w' : World) : Prop := Below w.heap.size w w' ∧ ∃ v, e = .returned v ∧ IsErr w' v (chkS p (chkP p)).1 (chkS p (chkP p)).2
theorem byteAt_idx {s : ByteArray} {i : Nat} (h : i < s.size) : s[i] = byteAt s i := by simp [byteAt, List.getD, h]; rfl
theorem ret_sub {s t : ByteArray} (h : t = s) : Ending.returned (.string s) = .returned (.string t) := by rw [h]
theorem leadS_end {p : ByteArray} (h : ∀ j, j < p.size → signB (byteAt p j) = false) : leadS p = p := by
  have : leadN p = p.size := leadN_is (Nat.le_refl _) h (fun h => absurd h (Nat.lt_irrefl _))
  unfold leadS
  rw [this]
  apply ByteArray.ext
  apply Array.ext'
  rw [Lib.extract_data]
  have hl : p.data.toList.length = p.size := rfl
  rw [List.drop_zero, Nat.sub_zero, ← hl, List.take_length]
theorem sign_eq (c : UInt8) : signB c = (((c.toNat : Int) == 42) || ((c.toNat : Int) == 63)) := by
  unfold signB
  rw [Bool.eq_iff_iff]
  simp
  omega

end Go.Proofs.YtakcfgmibijdnaaGreatDoor

/- query.Wanted. -/
namespace Go.Proofs.YtakcfgmibijdnaaGreatDoor
open Go.RowKit

theorem fits_no {p x : It} {f : Bool} (h : x.name ≠ p.name) : fitsB p f x = false := by unfold fitsB; rw [decide_eq_false h]; rfl
theorem fits_yes {p x : It} {f : Bool} (h : x.name = p.name) : fitsB p f x = matchB p.value (valI x) f := by unfold fitsB; rw [decide_eq_true h]; rfl
theorem str_eqT {a b : ByteArray} (h : a = b) : (a.toList == b.toList) = true := by rw [h]; simp
theorem str_eqF {a b : ByteArray} (h : a ≠ b) : (a.toList == b.toList) = false := by rw [str_eqB a b]; exact decide_eq_false h
set_option maxHeartbeats 1600000 in
set_option maxRecDepth 100000 in
theorem query_great (pa : Option Addr) (pc : Nat) (l : List It) (w : World) (hsl : ItemsSl w pa l) (hz : ∀ x ∈ l, x.name.size ≤ maxLen ∧ x.value.size ≤ maxLen) (hl : l.length ≤ maxLen) :
    Calls Tryz.prog 31 #[.slice pa l.length pc] w fun e w' => e = .returned (.bool (greatI l)) ∧ Below w.heap.size w w' := by
  unfold maxLen at hl
  by_cases hgt : 300 < l.length
  · have HG := Lib.hid (great_len hgt)
    have hgI : (l.length : Int) > 300 := by omega
    clear hgt
    go_enter Tryz.func31, Tryz.ntmps31
    go_wp2_with fail
    go_ret
    exact ⟨ret_bool HG.out.symm, Below.refl _ _⟩
  · have hgI : ¬ (l.length : Int) > 300 := by omega
    have hl3 : l.length ≤ 300 := by omega
    have HZ := Lib.hid hz
    have HSL := Lib.hid hsl
    clear hgt hz hsl
    go_enter Tryz.func31, Tryz.ntmps31
    go_wp2_with fail
    go_loopw [10] (fun x wr => ∃ i : Nat, i ≤ l.length ∧ x = .int .i64 i ∧ Below w.heap.size w wr ∧ ∀ (j : Nat) (p : It), j < i → l[j]? = some p → p.name.size ≤ 200 ∧ p.value.size ≤ 200) (fun x _ => l.length - (intOf x).toNat)
    case atStart => exact ⟨0, Nat.zero_le _, rfl, Below.refl _ _, fun j y h => by omega⟩
    case round =>
      obtain ⟨i, hil, rfl, hbr, hall⟩ := hrel
      have HA := Lib.hid hall
      clear hall
      by_cases hlt : i < l.length
      · obtain ⟨p, hx⟩ : ∃ p, l[i]? = some p := ⟨_, List.getElem?_eq_getElem hlt⟩
        obtain ⟨b, off, rfl, hb, d0, d1, d2⟩ := (HSL.out.below hbr) i p hx
        have hpm := List.mem_of_getElem? hx
        have hyes := fun h => great_any hpm h
        have hst : p.name.size ≤ 200 → p.value.size ≤ 200 → ∀ (j : Nat) (y : It), j < i + 1 → l[j]? = some y → y.name.size ≤ 200 ∧ y.value.size ≤ 200 := fun h1 h2 j y hj hy => by
          by_cases hji : j = i
          · subst hji; rw [hx] at hy; cases hy; exact ⟨h1, h2⟩
          · exact HA.out j y (by omega) hy
        obtain ⟨hz1, hz2⟩ := HZ.out p hpm
        unfold maxLen at hz1 hz2
        have HY := Lib.hid hyes
        have HS := Lib.hid hst
        obtain ⟨pn, pv, ph⟩ := p
        dsimp only at hz1 hz2
        have hiI : (i : Int) < (l.length : Int) := by omega
        have hstA : Below wr.heap.size wr (wr.alloc (.cells #[.string pn, .string pv, .bool ph] 47)) := (Below.refl _ _).alloc (Nat.le_refl _) _
        have hbA := Bt hbr hstA
        clear hyes hst hx HA hpm
        by_cases h1 : 200 < pn.size
        · have HG := Lib.hid (HY.out (.inl h1))
          have h1I : (pn.size : Int) > 200 := by omega
          go_wp2_with fail
          go_ret
          exact ⟨ret_bool HG.out.symm, hbA⟩
        · have h1I : ¬ (pn.size : Int) > 200 := by omega
          by_cases h2 : 200 < pv.size
          · have HG := Lib.hid (HY.out (.inr h2))
            have h2I : (pv.size : Int) > 200 := by omega
            go_wp2_with fail
            go_ret
            exact ⟨ret_bool HG.out.symm, hbA⟩
          · have h2I : ¬ (pv.size : Int) > 200 := by omega
            have HX := Lib.hid (HS.out (by dsimp only; omega) (by dsimp only; omega))
            clear HS HY
            go_wp2_with fail
            go_roundw
            case rel => exact ⟨i + 1, by omega, by go_num, hbA, HX.out⟩
            case measure => simp [intOf]; omega
      · obtain rfl : i = l.length := by omega
        have HN := Lib.hid (great_not hl3 (fun x hx => by
          obtain ⟨j, hj, rfl⟩ := List.mem_iff_getElem.1 hx
          exact HA.out j _ hj (List.getElem?_eq_getElem hj)))
        go_wp2_with fail
        go_ret
        exact ⟨ret_bool HN.out.symm, hbr⟩
end Go.Proofs.YtakcfgmibijdnaaGreatDoor
