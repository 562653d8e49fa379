/- What ASCII gives is right, and stands. -/
import Derived.Test.YtibhohpamnpkcaaGreatDoorRouteOrderM11
import Derived.Test.YtibhohpamnpkcaaGreatDoorRouteOrderM6
import Derived.Test.YtibhohpamnpkcaaGreatDoorRouteOrderM7
import Derived.Test.YtibhohpamnpkcaaGreatDoorRouteOrderM9

namespace Go.Proofs.YtibhohpamnpkcaaGreatDoor
open Go.RowKit

def SmB (c : UInt8) : Prop := smallZ (c.toNat : Int) = true
theorem sm_dig {n : Nat} (h : n < 36) : SmB (digN n) ∧ digN n ≠ 45 := by
  have : ∀ n : Fin 36, smallZ ((digN n.1).toNat : Int) = true ∧ digN n.1 ≠ 45 := by decide
  exact this ⟨n, h⟩
theorem numL_sm : ∀ (f n k b : Nat), n ≤ f → ∀ c ∈ numLp f n k b, SmB c ∧ c ≠ 45 := by
  intro f
  induction f with
  | zero =>
    intro n k b hn c hc
    obtain rfl : n = 0 := by omega
    rw [numL_last (by have := thrN_range k b; omega)] at hc
    obtain rfl := List.mem_singleton.1 hc
    exact sm_dig (by decide)
  | succ f ih =>
    intro n k b hn c hc
    have ht := thrN_range k b
    by_cases h : n < thrN k b
    · rw [numL_last h] at hc
      obtain rfl := List.mem_singleton.1 hc
      exact sm_dig (by omega)
    · rw [numL_more h] at hc
      have hml : (n - thrN k b) % (36 - thrN k b) < 36 - thrN k b := Nat.mod_lt _ (by omega)
      rcases List.mem_cons.1 hc with rfl | hc
      · exact sm_dig (by omega)
      · exact ih _ _ _ (by have := num_less h; omega) c hc
def MoreS (u v : PStp) : Prop := ∃ r : List UInt8, v.out = u.out ++ r ∧ ∀ c ∈ r, SmB c ∧ c ≠ 45
theorem MoreS.refl (u : PStp) : MoreS u u := ⟨[], by simp, fun _ h => by cases h⟩
theorem MoreS.trans {u v x : PStp} (h : MoreS u v) (h2 : MoreS v x) : MoreS u x := by
  obtain ⟨r, e, a⟩ := h
  obtain ⟨r2, e2, a2⟩ := h2
  refine ⟨r ++ r2, by rw [e2, e, List.append_assoc], fun c hc => ?_⟩
  rcases List.mem_append.1 hc with h | h
  · exact a c h
  · exact a2 c h
theorem step_moreS (m basic : Nat) (u : PStp) (c : Nat) : MoreS u (stepC m basic u c) := by
  unfold stepC
  split
  · exact ⟨[], by simp, fun _ h => by cases h⟩
  · split
    · exact ⟨numD u.delta u.bias, rfl, numL_sm _ _ _ _ (Nat.le_refl _)⟩
    · exact MoreS.refl u
theorem fold_moreS (m basic : Nat) : ∀ (l : List Nat) (u : PStp), MoreS u (l.foldl (stepC m basic) u) := by
  intro l
  induction l with
  | nil => intro u; exact MoreS.refl u
  | cons c l ih => intro u; exact (step_moreS m basic u c).trans (ih _)
theorem enc_moreS (cs : List Nat) (basic : Nat) : ∀ (ms : List Nat) (n : Nat) (u : PStp), MoreS u (encR cs basic ms n u) := by
  intro ms
  induction ms with
  | nil => intro n u; exact MoreS.refl u
  | cons m ms ih =>
    intro n u
    have h1 : MoreS u (roundC cs basic m n u) := (show MoreS u ⟨u.delta + (m - n) * (u.h + 1), u.bias, u.h, u.out⟩ from ⟨[], by simp, fun _ h => by cases h⟩).trans (fold_moreS m basic cs _)
    exact (h1.trans (show MoreS (roundC cs basic m n u) (nextC (roundC cs basic m n u)) from ⟨[], by simp [nextC], fun _ h => by cases h⟩)).trans (ih _ _)
theorem encN_parts (cs : List Nat) : ∃ r, encN cs = basicO cs ++ r ∧ ∀ c ∈ r, SmB c ∧ c ≠ 45 := enc_moreS cs (basicL cs).length (markL cs) 128 ⟨0, 72, (basicL cs).length, basicO cs⟩
theorem markL_low : ∀ l : List Nat, (∀ c ∈ l, c < 128) → markL l = [] := by
  intro l
  induction l with
  | nil => intro _; rfl
  | cons c l ih =>
    intro h
    show (if c < 128 then markL l else insU c (markL l)) = []
    rw [if_pos (h c (by simp))]
    exact ih fun x hx => h x (by simp [hx])
theorem encN_low (l : List Nat) (h : ∀ c ∈ l, c < 128) : encN l = basicO l := by
  unfold encN
  rw [markL_low l h]
  rfl
/-- A wide row's code ends in a digit. -/
theorem encN_wide {l : List Nat} (hr : ∀ c ∈ l, rightB (c : Int) = true) (hl : l.length ≤ 256) (h1024 : (encN l).length ≤ 1024) (hw : wideL l = true) : ∃ r, encN l = basicO l ++ r ∧ r ≠ [] ∧ ∀ c ∈ r, SmB c ∧ c ≠ 45 := by
  obtain ⟨r, e, h⟩ := encN_parts l
  refine ⟨r, e, ?_, h⟩
  rintro rfl
  rw [List.append_nil] at e
  have hlow : ∀ c ∈ l.filter (fun c => decide (c < 128)), c < 128 := fun c hc => of_decide_eq_true (List.mem_filter.1 hc).2
  have e2 : encN (l.filter fun c => decide (c < 128)) = basicO l := by
    rw [encN_low _ hlow]
    have : basicL (l.filter fun c => decide (c < 128)) = basicL l := by
      unfold basicL
      rw [List.filter_filter]
      simp
    unfold basicO
    rw [this]
  have d1 := dec_encN l hr hl h1024
  have d2 := dec_encN (l.filter fun c => decide (c < 128)) (fun c hc => hr c (List.mem_filter.1 hc).1) (Nat.le_trans (List.length_filter_le _ _) hl) (by rw [e2, ← e]; exact h1024)
  rw [e2, ← e, d1] at d2
  have d3 : l = l.filter fun c => decide (c < 128) := Except.ok.inj d2
  unfold wideL at hw
  obtain ⟨c, hc, h128⟩ := List.any_eq_true.1 hw
  rw [d3] at hc
  have := hlow c hc
  have := of_decide_eq_true h128
  omega
theorem sm_lower {b : UInt8} (h : SmB b) : lowerB b = b := by
  have h2 := of_decide_eq_true h
  apply UInt8.toNat_inj.1
  rw [lowerB_nat]
  unfold smallN
  split <;> omega
theorem sm_lt {b : UInt8} (h : SmB b) : b.toNat < 128 := by
  have h2 := of_decide_eq_true h
  omega
theorem badAt_none {s : ByteArray} : ∀ r k, badAt s r k = none ↔ ∀ j, k ≤ j → j < k + r → SmB (byteAt s j) := by
  intro r
  induction r with
  | zero => intro k; exact ⟨fun _ j h1 h2 => by omega, fun _ => rfl⟩
  | succ r ih =>
    intro k
    cases hs : smallZ ((byteAt s k).toNat : Int) with
    | true =>
      rw [bad_next hs, ih]
      constructor
      · intro h j h1 h2
        by_cases hj : j = k
        · subst hj; exact hs
        · exact h j (by omega) (by omega)
      · intro h j h1 h2
        exact h j (by omega) (by omega)
    | false =>
      rw [bad_hit hs]
      constructor
      · intro h; cases h
      · intro h
        have := h k (by omega) (by omega)
        unfold SmB at this
        rw [hs] at this
        cases this
theorem all_sm {s : ByteArray} : badAt s s.size 0 = none ↔ ∀ b ∈ s.data.toList, SmB b := by
  rw [badAt_none]
  have hl : s.data.toList.length = s.size := rfl
  constructor
  · intro h b hb
    obtain ⟨j, hj, rfl⟩ := List.getElem_of_mem hb
    have := h j (by omega) (by omega)
    have e : byteAt s j = s.data.toList[j] := by simp only [byteAt, List.getD, List.getElem?_eq_getElem hj]; rfl
    rw [e] at this
    exact this
  · intro h j _ hj
    have hj2 : j < s.data.toList.length := by omega
    have e : byteAt s j = s.data.toList[j] := by simp only [byteAt, List.getD, List.getElem?_eq_getElem hj2]; rfl
    rw [e]
    exact h _ (List.getElem_mem hj2)
theorem putL_sm {b : UInt8} (h : b.toNat < 128) : putL b.toNat = [b] := by
  unfold putL putN
  rw [if_pos (by omega)]
  simp
theorem putAll_low : ∀ l : List UInt8, (∀ b ∈ l, b.toNat < 128) → putAll (l.map UInt8.toNat) = l := by
  intro l
  induction l with
  | nil => intro _; rfl
  | cons b l ih =>
    intro h
    have e : putAll ((b :: l).map UInt8.toNat) = putL b.toNat ++ putAll (l.map UInt8.toNat) := rfl
    rw [e, putL_sm (h b (by simp)), ih fun x hx => h x (by simp [hx])]
    rfl
theorem chrs_low {s : ByteArray} (h : ∀ b ∈ s.data.toList, b.toNat < 128) : chrs s = (s.data.toList.map UInt8.toNat, none) := by
  have e : s = ⟨(putAll (s.data.toList.map UInt8.toNat)).toArray⟩ := by rw [putAll_low _ h]
  have := chrs_put (s.data.toList.map UInt8.toNat) fun x hx => by
    obtain ⟨b, hb, rfl⟩ := List.mem_map.1 hx
    exact .inl (by have := h b hb; omega)
  rw [← e] at this
  exact this
theorem lowerS_sm {s : ByteArray} (h : ∀ b ∈ s.data.toList, SmB b) : lowerS s = s := by
  apply ba_ext
  show (s.data.toList.map lowerB) = s.data.toList
  have := List.map_congr_left (l := s.data.toList) (f := lowerB) (g := id) fun b hb => sm_lower (h b hb)
  rw [this, List.map_id]
/-- A right label stands for itself. -/
theorem ascii_fix {t : ByteArray} (h : (rightL t).1 = 0) : asciiL t = .ok t := by
  have hb : badAt t t.size 0 = none := by
    cases hb : badAt t t.size 0 with
    | none => rfl
    | some i =>
      exfalso
      by_cases h0 : t.size = 0
      · rw [rightL_empty h0] at h; cases h
      · by_cases h1 : 63 < t.size
        · rw [rightL_long h0 h1] at h; cases h
        · rw [rightL_bad h0 h1 hb] at h; cases h
  have hs := all_sm.1 hb
  have hc := chrs_low fun b hb => sm_lt (hs b hb)
  have hlo := lowerS_sm hs
  have hw : wideL (chrs t).1 = false := by
    rw [hc]
    cases hw : wideL (t.data.toList.map UInt8.toNat) with
    | false => rfl
    | true =>
      obtain ⟨c, hc, h128⟩ := List.any_eq_true.1 hw
      obtain ⟨b, hb, rfl⟩ := List.mem_map.1 hc
      have := sm_lt (hs b hb)
      have := of_decide_eq_true h128
      omega
  rw [asciiL_low (by rw [hc]) hw (by rw [hlo]; exact h), hlo]
theorem badC_may : ∀ (l : List Nat) (k : Nat), badC l k = none → ∀ c ∈ l, mayB c = true := by
  intro l
  induction l with
  | nil => intro k _ c hc; cases hc
  | cons x l ih =>
    intro k h c hc
    cases hm : mayB x with
    | false => rw [badC_hit hm] at h; cases h
    | true =>
      rw [badC_next hm] at h
      rcases List.mem_cons.1 hc with rfl | hc
      · exact hm
      · exact ih _ h c hc
theorem asciiW_inv {l : List Nat} {t : ByteArray} (h : asciiW l = .ok t) : badC l 0 = none ∧ marksL l = true ∧ l.length ≤ 256 ∧ (encN l).length ≤ 59 ∧ t = ⟨(xnL ++ encN l).toArray⟩ := by
  cases hb : badC l 0 with
  | some i => rw [asciiW_bad hb] at h; cases h
  | none =>
    cases hm : marksL l with
    | false => rw [asciiW_marks hb hm] at h; cases h
    | true =>
      by_cases h3 : 256 < l.length ∨ 59 < (encN l).length
      · rw [asciiW_long hb hm h3] at h; cases h
      · rw [asciiW_ok hb hm h3] at h
        exact ⟨rfl, rfl, by omega, by omega, (Except.ok.inj h).symm⟩
/-- The code of a wide row is a right label. -/
theorem wide_right {l : List Nat} (hr : ∀ c ∈ l, rightB (c : Int) = true) (hw : wideL l = true) (ha : ∀ c ∈ l, mayB c = true) (hm : marksL l = true) (hl : l.length ≤ 256) (he : (encN l).length ≤ 59) :
    (rightL ⟨(xnL ++ encN l).toArray⟩).1 = 0 ∧ labD ⟨(xnL ++ encN l).toArray⟩ = some l := by
  obtain ⟨r, e, hr0, hrs⟩ := encN_wide hr hl (by omega) hw
  have hbo : bodyS ⟨(xnL ++ encN l).toArray⟩ = ⟨(encN l).toArray⟩ := rfl
  have hpre : Lib.hasPrefix (⟨(xnL ++ encN l).toArray⟩ : ByteArray).data.toList xnL = true := rfl
  have hlab : labD ⟨(xnL ++ encN l).toArray⟩ = some l := by
    rw [labD_ok hpre (by rw [hbo]; exact dec_encN l hr hl (by omega)), if_pos ⟨List.all_eq_true.2 ha, hw, by rw [hbo], hm⟩]
  refine ⟨?_, hlab⟩
  have hsz : (⟨(xnL ++ encN l).toArray⟩ : ByteArray).size = 4 + (encN l).length := by
    show (xnL ++ encN l).toArray.size = _
    simp [xnL]
    omega
  have hall : ∀ b ∈ (⟨(xnL ++ encN l).toArray⟩ : ByteArray).data.toList, SmB b := by
    intro b hb
    have hb : b ∈ xnL ++ encN l := hb
    rcases List.mem_append.1 hb with hb | hb
    · unfold xnL at hb
      simp at hb
      rcases hb with rfl | rfl | rfl <;> rfl
    · rw [e] at hb
      rcases List.mem_append.1 hb with hb | hb
      · unfold basicO at hb
        split at hb
        · cases hb
        · rcases List.mem_append.1 hb with hb | hb
          · unfold basicL at hb
            obtain ⟨c, hc, rfl⟩ := List.mem_map.1 hb
            obtain ⟨hc1, hc2⟩ := List.mem_filter.1 hc
            have hc2 := of_decide_eq_true hc2
            have hmc := ha c hc1
            unfold mayB at hmc
            have : charZ (c : Int) = false := char_out (by unfold inSpan; omega)
            rw [this, Bool.or_false] at hmc
            unfold SmB
            rw [UInt8.toNat_ofNat_of_lt' (show c < 256 by omega)]
            exact hmc
          · obtain rfl := List.mem_singleton.1 hb
            rfl
      · exact (hrs b hb).1
  have hb := all_sm.2 hall
  have hfine : fineB ⟨(xnL ++ encN l).toArray⟩ = true := by
    unfold fineB
    rw [hlab]
    have h0 : byteAt ⟨(xnL ++ encN l).toArray⟩ 0 ≠ 45 := by
      have : byteAt ⟨(xnL ++ encN l).toArray⟩ 0 = 120 := rfl
      rw [this]
      decide
    have h1 : byteAt ⟨(xnL ++ encN l).toArray⟩ ((⟨(xnL ++ encN l).toArray⟩ : ByteArray).size - 1) ≠ 45 := by
      have hx : byteAt ⟨(xnL ++ encN l).toArray⟩ ((⟨(xnL ++ encN l).toArray⟩ : ByteArray).size - 1) ∈ r := by
        have e1 : byteAt ⟨(xnL ++ encN l).toArray⟩ ((⟨(xnL ++ encN l).toArray⟩ : ByteArray).size - 1) = (xnL ++ basicO l ++ r).getD ((xnL ++ basicO l ++ r).length - 1) 0 := by
          rw [hsz]
          have e2 : xnL ++ basicO l ++ r = xnL ++ encN l := by rw [e, List.append_assoc]
          rw [e2]
          have e3 : (xnL ++ encN l).length = 4 + (encN l).length := by simp [xnL]; omega
          rw [e3]
          simp [byteAt]
        rw [e1]
        have hrl : 0 < r.length := List.length_pos_iff.2 hr0
        have hln : (xnL ++ basicO l ++ r).length = (xnL ++ basicO l).length + r.length := List.length_append
        rw [hln]
        simp only [List.getD]
        rw [List.getElem?_append_right (by omega), List.getElem?_eq_getElem (by omega)]
        exact List.getElem_mem _
      exact (hrs _ hx).2
    rw [decide_eq_true h0, decide_eq_true h1]
    simp
  rw [rightL_fine (by omega) (by omega) hb, if_pos hfine]
theorem lower_put {c : Nat} (h : rightC c) : (putL c).map lowerB = putL (smallN c) := by
  by_cases h1 : c < 128
  · have : ∀ c : Fin 128, (putL c.1).map lowerB = putL (smallN c.1) := by decide +kernel
    exact this ⟨c, h1⟩
  · have e : smallN c = c := by unfold smallN; rw [if_neg (by omega)]
    rw [e]
    have := List.map_congr_left (l := putL c) (f := lowerB) (g := id) fun b hb => lowerB_high (putL_high (by omega) (by have := rightC_lt h; omega) b hb)
    rw [this, List.map_id]
theorem lower_all : ∀ l : List Nat, (∀ c ∈ l, rightC c) → (putAll l).map lowerB = putAll (l.map smallN) := by
  intro l
  induction l with
  | nil => intro _; rfl
  | cons c l ih =>
    intro h
    rw [putAll_cons, List.map_append, lower_put (h c (by simp)), ih fun x hx => h x (by simp [hx]), List.map_cons, putAll_cons]
theorem small_rightC {c : Nat} (h : rightC c) : rightC (smallN c) := by
  unfold smallN
  split
  · exact .inl (by omega)
  · exact h
theorem lower_chrs {s : ByteArray} (h : (chrs s).2 = none) : chrs (lowerS s) = ((chrs s).1.map smallN, none) := by
  have hr := right_chrs s
  have e : lowerS s = ⟨(putAll ((chrs s).1.map smallN)).toArray⟩ := by
    have : lowerS s = ⟨(s.data.toList.map lowerB).toArray⟩ := rfl
    rw [this, ← put_chrs s h, lower_all _ hr]
  rw [e]
  exact chrs_put _ fun x hx => by
    obtain ⟨c, hc, rfl⟩ := List.mem_map.1 hx
    exact small_rightC (hr c hc)
theorem wide_lower {s : ByteArray} (h : (chrs s).2 = none) : wideL (lowC (lowerS s)) = wideL (chrs s).1 := by
  have e := lower_chrs h
  rw [lowC_ok (by rw [e]), e]
  unfold wideL
  rw [List.any_map]
  congr 1
  funext c
  show decide (128 ≤ smallN c) = decide (128 ≤ c)
  unfold smallN
  split
  · rw [decide_eq_false (by omega), decide_eq_false (by omega)]
  · rfl
/-- What ASCII gives is right. -/
theorem ascii_right {s t : ByteArray} (h : asciiL s = .ok t) : (rightL t).1 = 0 := by
  cases hc : (chrs s).2 with
  | some i => rw [asciiL_utf hc] at h; cases h
  | none =>
    cases hw : wideL (chrs s).1 with
    | false =>
      by_cases h3 : (rightL (lowerS s)).1 = 0
      · rw [asciiL_low hc hw h3] at h
        rw [← Except.ok.inj h]
        exact h3
      · rw [asciiL_err hc hw h3] at h; cases h
    | true =>
      rw [asciiL_wide hc hw] at h
      obtain ⟨h1, h2, h3, h4, rfl⟩ := asciiW_inv h
      exact (wide_right (lowC_right _) (by rw [wide_lower hc]; exact hw) (badC_may _ _ h1) h2 h3 h4).1
end Go.Proofs.YtibhohpamnpkcaaGreatDoor

/- The reference's Char of chapter 10. -/
namespace Go.Proofs.YtibhohpamnpkcaaGreatDoor
open Go.RowKit

set_option maxHeartbeats 6400000 in
set_option maxRecDepth 100000 in
theorem ref10_Char (c : Int) (w : World) (h1 : -9223372036854775808 ≤ c) (h2 : c ≤ 9223372036854775807) :
    Calls Tryz.prog 174 #[.int .i64 c] w fun e w' => e = .returned (.bool (charZ c)) ∧ w = w' := by
  by_cases d0 : ¬ c ≥ 223
  · have f0 : ¬ c ≥ 12293 := by omega
    have f1 : ¬ c ≥ 63744 := by omega
    have f2 : ¬ c ≥ 65536 := by omega
    have HV := Lib.hid (show charZ c = false from decide_eq_false (by unfold inSpan; omega))
    go_enter Tryz.func174, Tryz.ntmps174
    go_wp2_with fail
    go_ret
    exact ⟨ret_bool HV.out.symm, rfl⟩
  by_cases d1 : c ≤ 12287
  · by_cases e0 : c = 247
    · have f0 : (c != 247) = false := by rw [bne_eq_false_iff_eq]; omega
      have HV := Lib.hid (show charZ c = false from decide_eq_false (by unfold inSpan; omega))
      clear e0
      go_enter Tryz.func174, Tryz.ntmps174
      go_wp2_with fail
      go_ret
      exact ⟨ret_bool HV.out.symm, rfl⟩
    by_cases e1 : c < 8192
    · have f0 : (c != 247) = true := by rw [bne_iff_ne]; omega
      have HV := Lib.hid (show charZ c = true from decide_eq_true (by unfold inSpan; omega))
      go_enter Tryz.func174, Tryz.ntmps174
      go_wp2_with fail
      go_ret
      exact ⟨ret_bool HV.out.symm, rfl⟩
    by_cases e2 : c > 11263
    · have f0 : (c != 247) = true := by rw [bne_iff_ne]; omega
      have HV := Lib.hid (show charZ c = true from decide_eq_true (by unfold inSpan; omega))
      go_enter Tryz.func174, Tryz.ntmps174
      go_wp2_with fail
      go_ret
      exact ⟨ret_bool HV.out.symm, rfl⟩
    have f0 : (c != 247) = true := by rw [bne_iff_ne]; omega
    have HV := Lib.hid (show charZ c = false from decide_eq_false (by unfold inSpan; omega))
    go_enter Tryz.func174, Tryz.ntmps174
    go_wp2_with fail
    go_ret
    exact ⟨ret_bool HV.out.symm, rfl⟩
  by_cases d2 : ¬ c ≥ 12293
  · have f0 : ¬ c ≥ 63744 := by omega
    have f1 : ¬ c ≥ 65536 := by omega
    have HV := Lib.hid (show charZ c = false from decide_eq_false (by unfold inSpan; omega))
    go_enter Tryz.func174, Tryz.ntmps174
    go_wp2_with fail
    go_ret
    exact ⟨ret_bool HV.out.symm, rfl⟩
  by_cases d3 : c ≤ 55295
  · have HV := Lib.hid (show charZ c = true from decide_eq_true (by unfold inSpan; omega))
    go_enter Tryz.func174, Tryz.ntmps174
    go_wp2_with fail
    go_ret
    exact ⟨ret_bool HV.out.symm, rfl⟩
  by_cases d4 : ¬ c ≥ 63744
  · have f0 : ¬ c ≥ 65536 := by omega
    have HV := Lib.hid (show charZ c = false from decide_eq_false (by unfold inSpan; omega))
    go_enter Tryz.func174, Tryz.ntmps174
    go_wp2_with fail
    go_ret
    exact ⟨ret_bool HV.out.symm, rfl⟩
  by_cases d5 : c ≤ 65023
  · by_cases e0 : c < 64976
    · have HV := Lib.hid (show charZ c = true from decide_eq_true (by unfold inSpan; omega))
      go_enter Tryz.func174, Tryz.ntmps174
      go_wp2_with fail
      go_ret
      exact ⟨ret_bool HV.out.symm, rfl⟩
    by_cases e1 : c > 65007
    · have HV := Lib.hid (show charZ c = true from decide_eq_true (by unfold inSpan; omega))
      go_enter Tryz.func174, Tryz.ntmps174
      go_wp2_with fail
      go_ret
      exact ⟨ret_bool HV.out.symm, rfl⟩
    have HV := Lib.hid (show charZ c = false from decide_eq_false (by unfold inSpan; omega))
    go_enter Tryz.func174, Tryz.ntmps174
    go_wp2_with fail
    go_ret
    exact ⟨ret_bool HV.out.symm, rfl⟩
  by_cases d6 : ¬ c ≥ 65536
  · have HV := Lib.hid (show charZ c = false from decide_eq_false (by unfold inSpan; omega))
    go_enter Tryz.func174, Tryz.ntmps174
    go_wp2_with fail
    go_ret
    exact ⟨ret_bool HV.out.symm, rfl⟩
  by_cases d7 : ¬ c ≤ 262143
  · have HV := Lib.hid (show charZ c = false from decide_eq_false (by unfold inSpan; omega))
    go_enter Tryz.func174, Tryz.ntmps174
    go_wp2_with fail
    go_ret
    exact ⟨ret_bool HV.out.symm, rfl⟩
  by_cases e0 : c % 65536 = 65534
  · have f0 : (c % 65536 != 65534) = false := by rw [bne_eq_false_iff_eq]; omega
    have HV := Lib.hid (show charZ c = false from decide_eq_false (by unfold inSpan; omega))
    clear e0
    go_enter Tryz.func174, Tryz.ntmps174
    go_wp2_with fail
    go_ret
    exact ⟨ret_bool HV.out.symm, rfl⟩
  by_cases e1 : c % 65536 = 65535
  · have f0 : (c % 65536 != 65534) = true := by rw [bne_iff_ne]; omega
    have f1 : (c % 65536 != 65535) = false := by rw [bne_eq_false_iff_eq]; omega
    have HV := Lib.hid (show charZ c = false from decide_eq_false (by unfold inSpan; omega))
    clear e1
    go_enter Tryz.func174, Tryz.ntmps174
    go_wp2_with fail
    go_ret
    exact ⟨ret_bool HV.out.symm, rfl⟩
  have f0 : (c % 65536 != 65534) = true := by rw [bne_iff_ne]; omega
  have f1 : (c % 65536 != 65535) = true := by rw [bne_iff_ne]; omega
  have HV := Lib.hid (show charZ c = true from decide_eq_true (by unfold inSpan; omega))
  go_enter Tryz.func174, Tryz.ntmps174
  go_wp2_with fail
  go_ret
  exact ⟨ret_bool HV.out.symm, rfl⟩
end Go.Proofs.YtibhohpamnpkcaaGreatDoor

/- The reference's value, threshold, number of chapter 09. -/
namespace Go.Proofs.YtibhohpamnpkcaaGreatDoor
open Go.RowKit

def digs09 : ByteArray := ⟨#[97, 98, 99, 100, 101, 102, 103, 104, 105, 106, 107, 108, 109, 110, 111, 112, 113, 114, 115, 116, 117, 118, 119, 120, 121, 122, 48, 49, 50, 51, 52, 53, 54, 55, 56, 57]⟩
def valM (n : Nat) : Nat := if 65 ≤ n ∧ n ≤ 90 then n - 65 else if 97 ≤ n ∧ n ≤ 122 then n - 97 else if 48 ≤ n ∧ n ≤ 57 then n - 48 + 26 else 99
theorem valM_of (c : UInt8) : valNp c = if valM c.toNat < 36 then some (valM c.toNat) else none := by
  unfold valNp valM
  split
  · rw [if_pos (by omega)]
  · split
    · rw [if_pos (by omega)]
    · split
      · rw [if_pos (by omega)]
      · rw [if_neg (by omega)]
theorem digs09_find (n : Nat) (hn : n < 256) (hg : ¬ (65 ≤ n ∧ n ≤ 90)) : (∀ k, k < 36 → ((digs09.data.toList.getD k 0).toNat = n ↔ valM n = k)) ∧ (valM n < 36 ∨ valM n = 99) := by
  have : ∀ n : Fin 256, ¬ (65 ≤ n.1 ∧ n.1 ≤ 90) → (∀ k : Fin 36, ((digs09.data.toList.getD k.1 0).toNat = n.1 ↔ valM n.1 = k.1)) ∧ (valM n.1 < 36 ∨ valM n.1 = 99) := by decide +kernel
  have h := this ⟨n, hn⟩ hg
  exact ⟨fun k hk => h.1 ⟨k, hk⟩, h.2⟩
def valZ (n : Nat) : Int := if valM n < 36 then (valM n : Int) else -1

set_option maxHeartbeats 1600000 in
set_option maxRecDepth 100000 in
theorem ref09_value (n : Nat) (hn : n < 256) (w : World) : Calls Tryz.prog 222 #[.int .u8 (n : Int)] w fun e w' => e = .returned (.int .i64 (valZ n)) ∧ ∃ q, w.drewN q = w' := by
  by_cases hg : 65 ≤ n ∧ n ≤ 90
  · obtain ⟨g1, g2⟩ := hg
    have g1I : (n : Int) ≥ 65 := by omega
    have g2I : (n : Int) ≤ 90 := by omega
    have hv : valZ n = (n : Int) - 65 := by
      have hm : valM n = n - 65 := by unfold valM; rw [if_pos ⟨g1, g2⟩]
      unfold valZ
      rw [hm, if_pos (by omega)]
      omega
    have HV := Lib.hid hv
    clear hv
    go_enter Tryz.func222, Tryz.ntmps222
    go_wp2_with fail
    go_ret
    exact ⟨ret_i64 (by rw [HV.out]), 0, rfl⟩
  obtain ⟨hf, hv⟩ := digs09_find n hn hg
  have HF := Lib.hid hf
  have HG := Lib.hid hg
  clear hf hg
  by_cases g1 : (n : Int) ≥ 65
  all_goals
    try have g2 : ¬ (n : Int) ≤ 90 := by have := HG.out; omega
    go_enter Tryz.func222, Tryz.ntmps222
    go_wp2_with fail
    go_loopw [3] (fun i wr => ∃ k q : Nat, k ≤ 36 ∧ i = .int .i64 k ∧ (∀ j, j < k → valM n ≠ j) ∧ w.drewN q = wr) (fun i _ => 36 - (intOf i).toNat)
    case atStart => exact ⟨0, 0, by omega, rfl, fun j hj => by omega, rfl⟩
    case round =>
      obtain ⟨k, q, hk, rfl, hall, hwr⟩ := hrel
      have HW := Lib.hid hwr
      have HA := Lib.hid hall
      clear hall hwr
      by_cases hlt : k < 36
      · have hcond := HF.out k hlt
        have i1 : (k : Int) < 36 := by omega
        have hbk : (digs09.data.toList.getD k 0) = (⟨#[97, 98, 99, 100, 101, 102, 103, 104, 105, 106, 107, 108, 109, 110, 111, 112, 113, 114, 115, 116, 117, 118, 119, 120, 121, 122, 48, 49, 50, 51, 52, 53, 54, 55, 56, 57]⟩ : ByteArray)[k]'hlt := by
          simp [digs09, List.getD, hlt]; rfl
        rw [hbk] at hcond
        clear hbk
        by_cases hc : valM n = k
        · have e1 := hcond.2 hc
          have e2 : ((((⟨#[97, 98, 99, 100, 101, 102, 103, 104, 105, 106, 107, 108, 109, 110, 111, 112, 113, 114, 115, 116, 117, 118, 119, 120, 121, 122, 48, 49, 50, 51, 52, 53, 54, 55, 56, 57]⟩ : ByteArray)[k]'hlt).toNat : Int) == (n : Int)) = true := by
            rw [beq_iff_eq]; exact_mod_cast e1
          have HC := Lib.hid hc
          clear hc hcond e1
          go_wp2_with fail
          go_ret
          exact ⟨ret_i64 (by unfold valZ; rw [HC.out, if_pos hlt]), _, HW.out⟩
        · have e2 : ((((⟨#[97, 98, 99, 100, 101, 102, 103, 104, 105, 106, 107, 108, 109, 110, 111, 112, 113, 114, 115, 116, 117, 118, 119, 120, 121, 122, 48, 49, 50, 51, 52, 53, 54, 55, 56, 57]⟩ : ByteArray)[k]'hlt).toNat : Int) == (n : Int)) = false := by
            rw [beq_eq_false_iff_ne]
            intro h
            exact hc (hcond.1 (by exact_mod_cast h))
          have HC := Lib.hid hc
          clear hc hcond
          go_wp2_with fail
          go_roundw
          case rel => exact ⟨k + 1, _, by omega, by go_num, fun j hj => by
            by_cases hjk : j = k
            · subst hjk; exact HC.out
            · exact HA.out j (by omega), HW.out⟩
          case measure => simp [intOf]; omega
      · obtain rfl : k = 36 := by omega
        have h99 : valM n = 99 := by
          rcases hv with h | h
          · exact absurd rfl (HA.out _ h)
          · exact h
        have H99 := Lib.hid h99
        clear h99 hv
        go_wp2_with fail
        go_ret
        exact ⟨ret_i64 (by unfold valZ; rw [H99.out]; rfl), _, HW.out⟩
set_option maxHeartbeats 800000 in
theorem ref09_threshold (k b : Nat) (w : World) (hk : k ≤ 1000000) (hb : b ≤ 1000000000000) :
    Calls Tryz.prog 215 #[.int .i64 (k : Int), .int .i64 (b : Int)] w fun e w' => e = .returned (.int .i64 ((thrN k b : Nat) : Int)) ∧ w = w' := by
  by_cases h1 : (k : Int) - (b : Int) < 1
  · have HT := Lib.hid (show thrN k b = 1 by unfold thrN; omega)
    go_enter Tryz.func215, Tryz.ntmps215
    go_wp2_with fail
    go_ret
    exact ⟨ret_i64 (by rw [HT.out]; rfl), rfl⟩
  by_cases h2 : (k : Int) - (b : Int) > 26
  · have HT := Lib.hid (show thrN k b = 26 by unfold thrN; omega)
    go_enter Tryz.func215, Tryz.ntmps215
    go_wp2_with fail
    go_ret
    exact ⟨ret_i64 (by rw [HT.out]; rfl), rfl⟩
  have HT := Lib.hid (show ((thrN k b : Nat) : Int) = (k : Int) - (b : Int) by unfold thrN; omega)
  go_enter Tryz.func215, Tryz.ntmps215
  go_wp2_with fail
  go_ret
  exact ⟨ret_i64 HT.out.symm, rfl⟩
end Go.Proofs.YtibhohpamnpkcaaGreatDoor

/- The reference's number of chapter 09. -/
namespace Go.Proofs.YtibhohpamnpkcaaGreatDoor
open Go.RowKit

def RNPost (s : ByteArray) (a b : Nat) (w : World) (e : Ending) (w' : World) : Prop := (∃ q, w.drewN q = w') ∧
  ((∃ k j : Nat, rdN s a b = .error (k, j) ∧ k ≠ 0 ∧ e = .returned (.tuple #[.int .i64 0, .int .i64 0, .int .i64 (k : Int), .int .i64 (j : Int)])) ∨
   ∃ i t : Nat, rdN s a b = .ok (i, t) ∧ e = .returned (.tuple #[.int .i64 (i : Int), .int .i64 (t : Int), .int .i64 0, .int .i64 0]))
theorem results_tmp4 {fn : Func} {t u v x : Tmp} (h : fn.results = #[.tmp t, .tmp u, .tmp v, .tmp x]) (tmps : Array Value) (P : Program) (w : World) :
    (results fn tmps).run P w = .ok (.tuple #[tmps.getD t undef, tmps.getD u undef, tmps.getD v undef, tmps.getD x undef]) w := by
  simp [results, h]
theorem valZ_none {c : UInt8} (h : valNp c = none) : valZ c.toNat = -1 := by
  rw [valM_of] at h
  unfold valZ
  split at h
  · cases h
  · rw [if_neg (by assumption)]
theorem valZ_some {c : UInt8} {d : Nat} (h : valNp c = some d) : valZ c.toNat = (d : Int) := by
  rw [valM_of] at h
  unfold valZ
  split at h
  · injection h with h; rw [if_pos (by assumption), h]
  · cases h
set_option maxHeartbeats 6400000 in
set_option maxRecDepth 100000 in
theorem ref09_number (a0 b : Nat) (s : ByteArray) (w : World) (hs : s.size ≤ 1024) (ha : a0 ≤ s.size) (hb : b ≤ 1000000000000) :
    Calls Tryz.prog 221 #[.string s, .int .i64 (a0 : Int), .int .i64 (b : Int)] w (RNPost s a0 b w) := by
  have HR := Lib.hid (show rdN s a0 b = rdF s b (s.size - a0) a0 0 1 36 from rfl)
  generalize hRR : rdN s a0 b = R at *
  have HRR := Lib.hid hRR
  clear hRR
  go_enter Tryz.func221, Tryz.ntmps221
  go_wp2_with fail
  go_loopw [1, 10, 11, 12] (fun u x y z wr => ∃ a n v k q : Nat, u = .int .i64 a ∧ x = .int .i64 n ∧ y = .int .i64 v ∧ z = .int .i64 k ∧ a ≤ s.size ∧ k = 36 + 36 * (a - a0) ∧ a0 ≤ a ∧ n ≤ 2147483647 ∧ 1 ≤ v ∧ v ≤ 2147483647 ∧ rdF s b (s.size - a) a n v k = R ∧ w.drewN q = wr) (fun _ _ _ z _ => 40000 - (intOf z).toNat)
  case atStart => exact ⟨a0, 0, 1, 36, 0, rfl, rfl, rfl, rfl, ha, by omega, Nat.le_refl _, by omega, by omega, by omega, HR.out.symm, rfl⟩
  case round =>
    obtain ⟨a, n, v, k, q, rfl, rfl, rfl, rfl, hal, hk, haa, hn, hv1, hv2, hgo, hwr⟩ := hrel
    have hk2 : k ≤ 36900 := by omega
    have HK := Lib.hid hk
    have HW := Lib.hid hwr
    clear hk hwr
    by_cases hlt : a < s.size
    · obtain ⟨f', hf'⟩ : ∃ f', s.size - a = f' + 1 := ⟨s.size - a - 1, by omega⟩
      have hf2 : s.size - (a + 1) = f' := by omega
      rw [hf'] at hgo
      have HF2 := Lib.hid hf2
      have hidx : s[a] = byteAt s a := by simp [byteAt, List.getD, hlt]; rfl
      have eqI : ((a : Int) == (s.size : Int)) = false := by rw [beq_eq_false_iff_ne]; omega
      have hltI : (a : Int) < (s.size : Int) := by omega
      have cV := Lib.hid (fun W => ref09_value s[a].toNat (UInt8.toNat_lt _) W)
      clear hf' hf2
      cases hval : valNp (byteAt s a) with
      | none =>
        rw [rd_form hlt hval] at hgo
        have HG := Lib.hid hgo
        have cV2 : ∀ W, Calls Tryz.prog 222 #[.int .u8 (s[a].toNat : Int)] W fun e w' => e = .returned (.int .i64 (-1)) ∧ ∃ q, W.drewN q = w' := fun W => by have := cV.out W; rw [hidx, valZ_none hval] at this; rw [hidx]; exact this
        have CV2 := Lib.hid cV2
        clear hgo hval cV2 cV hidx
        go_wp2_with fail
        refine (CV2.out _).mono ?_
        rintro e w2 ⟨rfl, q2, rfl⟩
        go_wp2_with fail
        ((try simp only [Exit.inBlock, Exit.then]); refine bodyPost_ret (results_tmp4 rfl _ _ _) rfl ?_)
        refine ⟨⟨_, by first | exact HW.out | rw [← HW.out, World.drewN_drewN]⟩, .inl ⟨11, a, by rw [HRR.out, ← HG.out], by decide, rfl⟩⟩
      | some d =>
        have hd := valN_lt hval
        have hst1 := rd_far (b := b) (f := f') (n := n) (w := v) (k := k) hlt hval
        have hst2 := rd_ok (b := b) (f := f') (n := n) (w := v) (k := k) hlt hval
        have hst3 := rd_wide (b := b) (f := f') (n := n) (w := v) (k := k) hlt hval
        have hst4 := rd_next (b := b) (f := f') (n := n) (w := v) (k := k) hlt hval
        have cV2 : ∀ W, Calls Tryz.prog 222 #[.int .u8 (s[a].toNat : Int)] W fun e w' => e = .returned (.int .i64 (d : Int)) ∧ ∃ q, W.drewN q = w' := fun W => by have := cV.out W; rw [hidx, valZ_some hval] at this; rw [hidx]; exact this
        have CV2 := Lib.hid cV2
        have hmx := mul_le_max hd hv2
        have ht := thrN_range k b
        have cT := Lib.hid (fun W => ref09_threshold k b W (by omega) hb)
        have hnv : ((n + d * v : Nat) : Int) = (n : Int) + (d : Int) * (v : Int) := by simp
        have hdv : ((d * v : Nat) : Int) = (d : Int) * (v : Int) := by simp
        have hp0 : 0 ≤ (d : Int) * (v : Int) := by rw [← hdv]; exact Int.natCast_nonneg _
        have hp1 : (d : Int) * (v : Int) ≤ 77309411292 := by rw [← hdv]; omega
        have hvt : ((v * (36 - thrN k b) : Nat) : Int) = (v : Int) * (36 - ((thrN k b : Nat) : Int)) := by
          rw [Int.natCast_mul]; congr 1; omega
        have hw0 : 0 ≤ (v : Int) * (36 - ((thrN k b : Nat) : Int)) := by rw [← hvt]; exact Int.natCast_nonneg _
        have hwm : v * (36 - thrN k b) ≤ 2147483647 * 36 := Nat.mul_le_mul hv2 (by omega)
        have hw1 : (v : Int) * (36 - ((thrN k b : Nat) : Int)) ≤ 77309411292 := by rw [← hvt]; omega
        clear hval cV2 cV hidx hwm
        by_cases h3 : 2147483647 < n + d * v
        · rw [hst1 h3] at hgo
          have hqI : (n : Int) + (d : Int) * (v : Int) > 2147483647 := by rw [← hnv]; omega
          have HG := Lib.hid hgo
          clear hgo hst1 hst2 hst3 hst4 h3 hmx hnv hdv hvt hw0 hw1
          go_wp2_with fail
          refine (CV2.out _).mono ?_
          rintro e w2 ⟨rfl, q2, rfl⟩
          go_wp2_with fail
          ((try simp only [Exit.inBlock, Exit.then]); refine bodyPost_ret (results_tmp4 rfl _ _ _) rfl ?_)
          refine ⟨⟨_, by first | exact HW.out | rw [← HW.out, World.drewN_drewN]⟩, .inl ⟨16, a, by rw [HRR.out, ← HG.out], by decide, rfl⟩⟩
        have hqI : ¬ (n : Int) + (d : Int) * (v : Int) > 2147483647 := by rw [← hnv]; omega
        have hnn : n + d * v ≤ 2147483647 := by omega
        by_cases h4 : d < thrN k b
        · rw [hst2 h3 h4] at hgo
          have HG := Lib.hid hgo
          have h4I : (d : Int) < ((thrN k b : Nat) : Int) := by omega
          have HNV := Lib.hid hnv
          clear hgo hst1 hst2 hst3 hst4 hmx hnv hdv h3 hnn h4 hvt hw0 hw1
          generalize thrN k b = t at *
          go_wp2_with fail
          refine (CV2.out _).mono ?_
          rintro e w2 ⟨rfl, q2, rfl⟩
          go_wp2_with fail
          refine (cT.out _).mono ?_
          rintro e w5 ⟨rfl, rfl⟩
          go_wp2_with fail
          ((try simp only [Exit.inBlock, Exit.then]); refine bodyPost_ret (results_tmp4 rfl _ _ _) rfl ?_)
          refine ⟨⟨_, by first | exact HW.out | rw [← HW.out, World.drewN_drewN]⟩, .inr ⟨n + d * v, a + 1, by rw [HRR.out, ← HG.out], by rw [HNV.out]; rfl⟩⟩
        have h4I : ¬ (d : Int) < ((thrN k b : Nat) : Int) := by omega
        by_cases h5 : 2147483647 < v * (36 - thrN k b)
        · rw [hst3 h3 h4 h5] at hgo
          have HG := Lib.hid hgo
          have h5I : (v : Int) * (36 - ((thrN k b : Nat) : Int)) > 2147483647 := by rw [← hvt]; omega
          clear hgo hst1 hst2 hst3 hst4 hmx hnv hdv h3 hnn h4 h5 hvt
          generalize thrN k b = t at *
          go_wp2_with fail
          refine (CV2.out _).mono ?_
          rintro e w2 ⟨rfl, q2, rfl⟩
          go_wp2_with fail
          refine (cT.out _).mono ?_
          rintro e w5 ⟨rfl, rfl⟩
          go_wp2_with fail
          ((try simp only [Exit.inBlock, Exit.then]); refine bodyPost_ret (results_tmp4 rfl _ _ _) rfl ?_)
          refine ⟨⟨_, by first | exact HW.out | rw [← HW.out, World.drewN_drewN]⟩, .inl ⟨16, a, by rw [HRR.out, ← HG.out], by decide, rfl⟩⟩
        · rw [hst4 h3 h4 h5] at hgo
          have HG := Lib.hid hgo
          have h5I : ¬ (v : Int) * (36 - ((thrN k b : Nat) : Int)) > 2147483647 := by rw [← hvt]; omega
          have hv1' : 1 ≤ v * (36 - thrN k b) := Nat.mul_pos (by omega) (by omega)
          have HNV := Lib.hid hnv
          have HVT := Lib.hid hvt
          have HN := Lib.hid hnn
          have H5 := Lib.hid (Nat.not_lt.1 h5)
          have HV1 := Lib.hid hv1'
          clear hgo hst1 hst2 hst3 hst4 hmx hnv hdv h3 hnn h4 h5 hvt hv1'
          generalize thrN k b = t at *
          go_wp2_with fail
          refine (CV2.out _).mono ?_
          rintro e w2 ⟨rfl, q2, rfl⟩
          go_wp2_with fail
          refine (cT.out _).mono ?_
          rintro e w5 ⟨rfl, rfl⟩
          go_wp2_with fail
          go_roundw
          case rel => exact ⟨a + 1, n + d * v, v * (36 - t), k + 36, _, by simp, by rw [HNV.out], by rw [HVT.out], by simp, by omega, by have := HK.out; omega, by omega, HN.out, HV1.out, H5.out, by rw [HF2.out]; exact HG.out, by first | exact HW.out | rw [← HW.out, World.drewN_drewN]⟩
          case measure => simp [intOf]; omega
    · obtain rfl : a = s.size := by omega
      rw [rd_end (Nat.le_refl _)] at hgo
      have HG := Lib.hid hgo
      have eqI : ((s.size : Int) == (s.size : Int)) = true := by simp
      clear hgo
      go_wp2_with fail
      ((try simp only [Exit.inBlock, Exit.then]); refine bodyPost_ret (results_tmp4 rfl _ _ _) rfl ?_)
      refine ⟨⟨_, HW.out⟩, .inl ⟨10, s.size, by rw [HRR.out, ← HG.out], by decide, rfl⟩⟩
end Go.Proofs.YtibhohpamnpkcaaGreatDoor

/- The walk of PunyAdapts. -/
namespace Go.Proofs.YtibhohpamnpkcaaGreatDoor
open Go.RowKit

set_option maxHeartbeats 1600000 in
set_option maxRecDepth 100000 in
theorem ref_Adapt (delta count : Int) (first : Bool) (w : World) (h1 : delta ≤ 1099511627776) (h2 : count ≤ 1099511627776) :
    Calls Tryz.prog 200 #[.int .i64 delta, .int .i64 count, .bool first] w fun e w' => e = .returned (.int .i64 (adaptZ delta count first)) ∧ w = w' := by
  by_cases hd : delta < 0
  · have HV := Lib.hid (adaptZ_neg (first := first) (count := count) (.inl hd))
    go_enter Tryz.func200, Tryz.ntmps200
    go_wp2_with fail
    go_ret
    exact ⟨ret_i64 HV.out.symm, rfl⟩
  by_cases hc : count < 1
  · have HV := Lib.hid (adaptZ_neg (first := first) (delta := delta) (.inr hc))
    go_enter Tryz.func200, Tryz.ntmps200
    go_wp2_with fail
    go_ret
    exact ⟨ret_i64 HV.out.symm, rfl⟩
  obtain ⟨d, rfl⟩ : ∃ d : Nat, delta = d := ⟨delta.toNat, by omega⟩
  obtain ⟨c, rfl⟩ : ∃ c : Nat, count = c := ⟨count.toNat, by omega⟩
  have hc1 : 1 ≤ c := by omega
  rw [adaptZ_nat d c first hc1]
  have hz := adapt0_le d c first
  have hst := adapt0_int d c first (by omega)
  have hR : adaptL (adapt0 d c first) (adapt0 d c first) 0 = adaptN d c first := rfl
  have HR := Lib.hid hR
  clear hR hd hc
  generalize adaptN d c first = R at *
  generalize adapt0 d c first = D at *
  cases first
  all_goals
    simp only [Bool.false_eq_true, if_false, if_true, reduceIte] at hst
    have hs := congrArg (Value.int .i64) hst
    have HST := Lib.hid hs
    clear hst hs
    go_enter Tryz.func200, Tryz.ntmps200
    go_wp2_with fail
    go_loop [7, 8] (fun x y => ∃ f e k : Nat, x = .int .i64 e ∧ y = .int .i64 k ∧ e ≤ f ∧ k + e ≤ D ∧ adaptL f e k = R) (fun x _ => (intOf x).toNat)
    case atStart => exact ⟨D, D, 0, HST.out, rfl, Nat.le_refl _, by omega, HR.out⟩
    case round =>
      obtain ⟨f, e, k, rfl, rfl, hef, hke, hg⟩ := hrel
      by_cases h5 : 455 < e
      · obtain ⟨f', rfl⟩ : ∃ f', f = f' + 1 := ⟨f - 1, by omega⟩
        rw [adaptL_go h5] at hg
        have HG := Lib.hid hg
        have h5I : (e : Int) > 455 := by omega
        clear hg
        go_wp2_with fail
        go_round
        case rel => exact ⟨f', e / 35, k + 36, by simp, by simp, by omega, by omega, HG.out⟩
        case measure => simp [intOf]; omega
      · rw [adaptL_end h5] at hg
        have h5I : ¬ (e : Int) > 455 := by omega
        have hq : 36 * e / (e + 38) ≤ 36 * e := Nat.div_le_self _ _
        have hqc : ((36 * e / (e + 38) : Nat) : Int) = 36 * (e : Int) / ((e : Int) + 38) := by simp
        have HG := Lib.hid hg
        generalize 36 * e / (e + 38) = q at *
        have HQ := Lib.hid hqc
        clear hg hqc
        go_wp2_with fail
        rw [← HQ.out]
        go_wp2_with fail
        go_ret
        exact ⟨ret_i64 (by rw [wrap64_inA _ (by omega) (by omega), ← HG.out]; simp), rfl⟩
end Go.Proofs.YtibhohpamnpkcaaGreatDoor
