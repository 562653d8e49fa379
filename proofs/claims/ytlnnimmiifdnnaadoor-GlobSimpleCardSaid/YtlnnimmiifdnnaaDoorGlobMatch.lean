/- glob.Match, glob.Simple, glob.CheckSimple, glob.Lead, glob.Least. -/
import Derived.Test.YtlnnimmiifdnnaaDoorGlobRun
import Derived.Test.YtlnnimmiifdnnaaDoorGlobPointed
namespace Go.Proofs.YtlnnimmiifdnnaaDoor
open Go.RowKit

theorem chrs_le {s : ByteArray} : ∀ c ∈ (chrs s).1, c ≤ 1114111 := fun c hc => by have := rightC_lt (right_chrs s c hc); omega
theorem patP_le {p : ByteArray} : ∀ q ∈ patP p, q.char ≤ 1114111 := by
  intro q hq
  unfold patP at hq
  obtain ⟨c, hc, rfl⟩ := List.mem_map.1 hq
  have := chrs_le c hc
  unfold partOf
  repeat' split
  all_goals (simp; try omega)
theorem prun_le (l : List Nat) (h : ∀ c ∈ l, c ≤ 1114111) : ∀ s : PSt, (∀ q ∈ s.parts, q.char ≤ 1114111) → ∀ q ∈ (prun s l).1.parts, q.char ≤ 1114111 := by
  induction l with
  | nil => intro s hs; exact hs
  | cons c l ih =>
    intro s hs
    have hc := h c (by simp)
    have hl : ∀ c ∈ l, c ≤ 1114111 := fun d hd => h d (by simp [hd])
    unfold prun
    have hm : ∀ k : List GPart, (∀ q ∈ k, q.char ≤ 1114111) → ∀ q ∈ setMany k, q.char ≤ 1114111 := by
      intro k
      induction k with
      | nil => intro hk q hq; cases hq
      | cons x k ihk =>
        intro hk q hq
        cases k with
        | nil =>
          have : q = ⟨x.char, x.wild, true⟩ := by simpa [setMany] using hq
          subst this
          exact hk x (by simp)
        | cons y r =>
          rcases List.mem_cons.1 hq with rfl | hq
          · exact hk _ (by simp)
          · exact ihk (fun z hz => hk z (by simp [hz])) q hq
    have ha : ∀ q ∈ s.parts ++ [⟨c, false, false⟩], GPart.char q ≤ 1114111 := fun q hq => by
      rcases List.mem_append.1 hq with hq | hq
      · exact hs q hq
      · simp at hq; subst hq; exact hc
    have hb : ∀ q ∈ s.parts ++ [⟨c, decide (c = 46), false⟩], GPart.char q ≤ 1114111 := fun q hq => by
      rcases List.mem_append.1 hq with hq | hq
      · exact hs q hq
      · simp at hq; subst hq; exact hc
    unfold pstep
    by_cases h1 : s.escaped = true
    · rw [if_pos h1]; exact ih hl _ ha
    · rw [if_neg h1]
      by_cases h2 : c = 92
      · rw [if_pos h2]; exact ih hl _ hs
      · rw [if_neg h2]
        by_cases h3 : c = 42
        · rw [if_pos h3]
          by_cases h4 : s.opened = true
          · rw [if_pos h4]; exact ih hl _ (hm _ hs)
          · rw [if_neg h4]; exact hs
        · rw [if_neg h3]; exact ih hl _ hb
theorem patS_le {p : ByteArray} : ∀ q ∈ patS p, q.char ≤ 1114111 := prun_le _ chrs_le pinit (fun q hq => by cases hq)
theorem prun_len (l : List Nat) : ∀ s : PSt, (prun s l).1.parts.length ≤ s.parts.length + l.length := by
  induction l with
  | nil => intro s; exact Nat.le_refl _
  | cons c l ih =>
    intro s
    unfold prun pstep
    by_cases h1 : s.escaped = true
    · rw [if_pos h1]; refine Nat.le_trans (ih _) ?_; first | (simp; done) | (simp; omega)
    · rw [if_neg h1]
      by_cases h2 : c = 92
      · rw [if_pos h2]; refine Nat.le_trans (ih _) ?_; first | (simp; done) | (simp; omega)
      · rw [if_neg h2]
        by_cases h3 : c = 42
        · rw [if_pos h3]
          by_cases h4 : s.opened = true
          · rw [if_pos h4]; refine Nat.le_trans (ih _) ?_; first | (simp [setMany_len]; done) | (simp [setMany_len]; omega)
          · rw [if_neg h4]; exact Nat.le_add_right _ _
        · rw [if_neg h3]; refine Nat.le_trans (ih _) ?_; first | (simp; done) | (simp; omega)
theorem patS_len (p : ByteArray) : (patS p).length ≤ p.size := by
  have h1 := prun_len (chrs p).1 pinit
  have h2 := chrs_len p
  have h3 : pinit.parts.length = 0 := rfl
  unfold patS; omega

theorem matchB_no {p s : ByteArray} {f : Bool} (h : okP p = false) : matchB p s f = false := by unfold matchB; rw [h]; rfl
theorem matchB_bad {p s : ByteArray} {f : Bool} {i : Nat} (h : (chrs s).2 = some i) : matchB p s f = false := by unfold matchB; rw [h]; simp
theorem matchB_run {p s : ByteArray} {f : Bool} (h : okP p = true) (h2 : (chrs s).2 = none) : matchB p s f = langB f (patP p) (chrs s).1 := by unfold matchB; rw [h, h2]; rfl
theorem simpleB_no {p s : ByteArray} (h : okS p = false) : simpleB p s = false := by unfold simpleB; rw [h]; rfl
theorem simpleB_run {p s : ByteArray} (h : okS p = true) (h2 : (chrs s).2 = none) : simpleB p s = langB false (patS p) (chrs s).1 := by unfold simpleB; rw [h, h2]; rfl

set_option maxHeartbeats 1600000 in
set_option maxRecDepth 100000 in
theorem glob_Match (p s : ByteArray) (f : Bool) (w : World) (hU : Utf8Laid w) (hp : p.size ≤ 16777216) (hs : s.size ≤ 16777216) :
    Calls Tryd.prog 9 #[.string p, .string s, .bool f] w fun e w' => e = .returned (.bool (matchB p s f)) ∧ Below w.heap.size w w' := by
  go_enter Tryd.func9, Tryd.ntmps9
  go_wp2_with fail
  refine (glob_plain p _ hU hp).mono ?_
  rintro e w1 ⟨hb1, h⟩
  have hU1 := hU.below hb1
  rcases h with ⟨hok, v, rfl, hown⟩ | ⟨hok, u, rfl⟩
  · have HOK := Lib.hid hok
    clear hok
    have hpl := patP_len p
    go_wp2_with ((with_reducible refine wpList_bytes_sl rfl 9 27 5 _ rfl s rfl Tryd.underlying9 Tryd.underlying27 Tryd.underlying5 (by omega) ?_); intro v1 w2 hv1 hb2)
    have hb12 := Bt hb1 hb2
    refine (utf_Chars v1 s _ (hU1.below hb2) hs hv1).mono ?_
    rintro e w3 ⟨hb3, h⟩
    have hb13 := Bt hb12 hb3
    have hown3 := (hown.below hb2).below hb3
    rcases h with ⟨hn, v3, rfl, hownc⟩ | ⟨i, hi, v3, rfl, hv3⟩
    · obtain ⟨a, c, rfl, hc1, hc2, hsl⟩ := chars_sl hownc rfl
      obtain ⟨a4, c4, e4⟩ := row_len hown3
      subst e4
      obtain ⟨_, hc3, hc4, hpsl⟩ := hown3.sl
      have hlen := chrs_len s
      have HV := Lib.hid (matchB_run (f := f) HOK.out hn)
      have hrun := fun W h1 h2 => glob_run a4 a (patP p).length c4 (chrs s).1.length c (patP p) (chrs s).1 f W rfl rfl (by omega) (by omega) h1 h2 patP_le chrs_le
      have HRUN := Lib.hid hrun
      generalize (chrs s).1 = cs at *
      generalize patP p = ps at *
      clear hn hown3 hownc hown hb1 hb2 hb3 hb12 hrun
      go_wp2_with fail
      refine (HRUN.out _ hpsl hsl).mono ?_
      rintro e w4 ⟨rfl, hb4⟩
      have hb5 := Bt hb13 hb4
      go_wp2_with fail
      go_ret
      exact ⟨ret_bool HV.out.symm, hb5⟩
    · obtain ⟨q, rfl⟩ := hv3.ne_nil
      have HV := Lib.hid (matchB_bad (p := p) (f := f) hi)
      clear hi
      go_wp2_with fail
      go_ret
      exact ⟨ret_bool HV.out.symm, hb13⟩
  · have HV := Lib.hid (matchB_no (s := s) (f := f) hok)
    clear hok
    go_wp2_with ((with_reducible refine wpList_bytes_sl rfl 9 27 5 _ rfl s rfl Tryd.underlying9 Tryd.underlying27 Tryd.underlying5 (by omega) ?_); intro v1 w2 hv1 hb2)
    have hb12 := Bt hb1 hb2
    refine (utf_Chars v1 s _ (hU1.below hb2) hs hv1).mono ?_
    rintro e w3 ⟨hb3, h⟩
    have hb13 := Bt hb12 hb3
    rcases h with ⟨hn, v3, rfl, hownc⟩ | ⟨i, hi, v3, rfl, hv3⟩
    · clear hn hownc
      go_wp2_with fail
      go_ret
      exact ⟨ret_bool HV.out.symm, hb13⟩
    · clear hi hv3
      go_wp2_with fail
      go_ret
      exact ⟨ret_bool HV.out.symm, hb13⟩

set_option maxHeartbeats 1600000 in
set_option maxRecDepth 100000 in
theorem glob_Simple (p s : ByteArray) (w : World) (hU : Utf8Laid w) (hp : p.size ≤ 16777216) (hs : s.size ≤ 16777216) :
    Calls Tryd.prog 15 #[.string p, .string s] w fun e w' => e = .returned (.bool (simpleB p s)) ∧ Below w.heap.size w w' := by
  go_enter Tryd.func15, Tryd.ntmps15
  go_wp2_with fail
  refine (glob_pointed p _ hU hp).mono ?_
  rintro e w1 ⟨hb1, h⟩
  have hU1 := hU.below hb1
  rcases h with ⟨hok, _, v, rfl, hown⟩ | ⟨hok, u, rfl, _, hv⟩
  · have HOK := Lib.hid hok
    clear hok
    have hpl := patS_len p
    go_wp2_with ((with_reducible refine wpList_bytes_sl rfl 9 27 5 _ rfl s rfl Tryd.underlying9 Tryd.underlying27 Tryd.underlying5 (by omega) ?_); intro v1 w2 hv1 hb2)
    have hb12 := Bt hb1 hb2
    refine (utf_Chars v1 s _ (hU1.below hb2) hs hv1).mono ?_
    rintro e w3 ⟨hb3, h⟩
    have hb13 := Bt hb12 hb3
    have hown3 := (hown.below hb2).below hb3
    rcases h with ⟨hn, v3, rfl, hownc⟩ | ⟨i, hi, v3, rfl, hv3⟩
    · obtain ⟨a, c, rfl, hc1, hc2, hsl⟩ := chars_sl hownc rfl
      obtain ⟨a4, c4, e4⟩ := row_len hown3
      subst e4
      obtain ⟨_, hc3, hc4, hpsl⟩ := hown3.sl
      have hlen := chrs_len s
      have HV := Lib.hid (simpleB_run HOK.out hn)
      have hrun := fun W h1 h2 => glob_run a4 a (patS p).length c4 (chrs s).1.length c (patS p) (chrs s).1 false W rfl rfl (by omega) (by omega) h1 h2 patS_le chrs_le
      have HRUN := Lib.hid hrun
      generalize (chrs s).1 = cs at *
      generalize patS p = ps at *
      clear hn hown3 hownc hown hb1 hb2 hb3 hb12 hrun
      go_wp2_with fail
      refine (HRUN.out _ hpsl hsl).mono ?_
      rintro e w4 ⟨rfl, hb4⟩
      have hb5 := Bt hb13 hb4
      go_wp2_with fail
      go_ret
      exact ⟨ret_bool HV.out.symm, hb5⟩
    · obtain ⟨q, rfl⟩ := hv3.ne_nil
      have HV := Lib.hid (simpleB_bad p s hi)
      clear hi
      go_wp2_with fail
      go_ret
      exact ⟨ret_bool HV.out.symm, hb13⟩
  · have HV := Lib.hid (simpleB_no (s := s) hok)
    obtain ⟨q, rfl⟩ := hv.ne_nil
    clear hok hv
    go_wp2_with ((with_reducible refine wpList_bytes_sl rfl 9 27 5 _ rfl s rfl Tryd.underlying9 Tryd.underlying27 Tryd.underlying5 (by omega) ?_); intro v1 w2 hv1 hb2)
    have hb12 := Bt hb1 hb2
    refine (utf_Chars v1 s _ (hU1.below hb2) hs hv1).mono ?_
    rintro e w3 ⟨hb3, h⟩
    have hb13 := Bt hb12 hb3
    rcases h with ⟨hn, v3, rfl, hownc⟩ | ⟨i, hi, v3, rfl, hv3⟩
    · clear hn hownc
      go_wp2_with fail
      go_ret
      exact ⟨ret_bool HV.out.symm, hb13⟩
    · clear hi hv3
      go_wp2_with fail
      go_ret
      exact ⟨ret_bool HV.out.symm, hb13⟩

def CheckSPost (p : ByteArray) (w : World) (e : Ending) (w' : World) : Prop := Below w.heap.size w w' ∧ ∃ v, e = .returned v ∧ IsErr w' v (chkS p (chkP p)).1 (chkS p (chkP p)).2
set_option maxHeartbeats 800000 in
theorem glob_CheckSimple (p : ByteArray) (w : World) (hU : Utf8Laid w) (hp : p.size ≤ 16777216) : Calls Tryd.prog 19 #[.string p] w (CheckSPost p w) := by
  go_enter Tryd.func19, Tryd.ntmps19
  go_wp2_with fail
  refine (glob_pointed p _ hU hp).mono ?_
  rintro e w1 ⟨hb1, h⟩
  rcases h with ⟨_, hk, v, rfl, hown⟩ | ⟨_, u, rfl, hk, hv⟩
  · have HK := Lib.hid hk
    clear hk
    go_wp2_with fail
    go_ret
    exact ⟨hb1, _, rfl, .inl ⟨by rw [HK.out], rfl⟩⟩
  · have HK := Lib.hid hk
    have HV := Lib.hid hv
    clear hk hv
    go_wp2_with fail
    go_ret
    exact ⟨hb1, _, rfl, HV.out.isErr HK.out⟩

theorem byteAt_idx {s : ByteArray} {i : Nat} (h : i < s.size) : s[i] = byteAt s i := by simp [byteAt, List.getD, h]; rfl
theorem ret_sub {s t : ByteArray} (h : t = s) : Ending.returned (.string s) = .returned (.string t) := by rw [h]
theorem leadS_end {p : ByteArray} (h : ∀ j, j < p.size → signB (byteAt p j) = false) : leadS p = p := by
  have : leadN p = p.size := leadN_is (Nat.le_refl _) h (fun h => absurd h (Nat.lt_irrefl _))
  unfold leadS
  rw [this]
  apply ByteArray.ext
  apply Array.ext'
  rw [Lib.extract_data]
  have hl : p.data.toList.length = p.size := rfl
  rw [List.drop_zero, Nat.sub_zero, ← hl, List.take_length]
theorem sign_eq (c : UInt8) : signB c = (((c.toNat : Int) == 42) || ((c.toNat : Int) == 63)) := by
  unfold signB
  rw [Bool.eq_iff_iff]
  simp
  omega

set_option maxHeartbeats 1600000 in
theorem glob_Lead (p : ByteArray) (w : World) (hp : p.size ≤ 16777216) : Calls Tryd.prog 11 #[.string p] w fun e w' => e = .returned (.string (leadS p)) ∧ w = w' := by
  go_enter Tryd.func11, Tryd.ntmps11
  go_wp2_with fail
  go_loop [6] (fun x => ∃ i : Nat, i ≤ p.size ∧ x = .int .i64 i ∧ ∀ j, j < i → signB (byteAt p j) = false) (fun x => p.size - (intOf x).toNat)
  case atStart => exact ⟨0, Nat.zero_le _, rfl, fun j hj => by omega⟩
  case round =>
    obtain ⟨i, hil, rfl, hall⟩ := hrel
    have HA := Lib.hid hall
    clear hall
    by_cases hlt : i < p.size
    · have hb := byteAt_idx hlt
      have hsg := sign_eq (byteAt p i)
      rw [← hb] at hsg
      have hlead : signB p[i] = true → leadS p = p.extract 0 i := fun h => by
        have := leadN_is (Nat.le_of_lt hlt) HA.out (fun _ => hb ▸ h)
        unfold leadS; rw [this]
      have hnext : signB p[i] = false → ∀ j, j < i + 1 → signB (byteAt p j) = false := fun h j hj => by
        by_cases hji : j = i
        · rw [hji, ← hb]; exact h
        · exact HA.out j (by omega)
      have HL := Lib.hid hlead
      have HX := Lib.hid hnext
      clear hlead hnext hb
      by_cases h1 : ((p[i].toNat : Int) == 42) = true
      · have HS := Lib.hid (show signB p[i] = true by rw [hsg, h1]; rfl)
        clear hsg
        go_wp2_with fail
        go_ret
        exact ⟨ret_sub (HL.out HS.out), rfl⟩
      · have h1 : ((p[i].toNat : Int) == 42) = false := by simpa using h1
        by_cases h2 : ((p[i].toNat : Int) == 63) = true
        · have HS := Lib.hid (show signB p[i] = true by rw [hsg, h2]; simp)
          clear hsg
          go_wp2_with fail
          go_ret
          exact ⟨ret_sub (HL.out HS.out), rfl⟩
        · have h2 : ((p[i].toNat : Int) == 63) = false := by simpa using h2
          have HS := Lib.hid (show signB p[i] = false by rw [hsg, h1, h2]; rfl)
          clear hsg
          go_wp2_with fail
          go_round
          case rel => exact ⟨i + 1, by omega, by go_num, HX.out HS.out⟩
          case measure => simp [intOf]; omega
    · obtain rfl : i = p.size := by omega
      have hfin := Lib.hid (leadS_end HA.out)
      go_wp2_with fail
      go_ret
      exact ⟨ret_sub hfin.out, rfl⟩
end Go.Proofs.YtlnnimmiifdnnaaDoor
