/- The examples of chapter 10's statements. -/
import Derived.Test.YtbonnmkkacplgaaGreatDoorLabelNamesM20
import Derived.Test.YtbonnmkkacplgaaGreatDoorLabelNamesM19
import Derived.Test.YtbonnmkkacplgaaGreatDoorLabelNamesM17

namespace Go.Proofs.YtbonnmkkacplgaaGreatDoor
open Go.RowKit

def exN : ByteArray := ⟨#[66, 195, 188, 99, 104, 101, 114, 46, 69, 120, 97, 109, 112, 108, 101, 46]⟩
def exA : ByteArray := ⟨#[120, 110, 45, 45, 98, 99, 104, 101, 114, 45, 107, 118, 97, 46, 101, 120, 97, 109, 112, 108, 101]⟩
theorem sp10a : nameF (fieldsB (cutP exN)) 0 = .ok [⟨#[120, 110, 45, 45, 98, 99, 104, 101, 114, 45, 107, 118, 97]⟩, ⟨#[101, 120, 97, 109, 112, 108, 101]⟩] := by kernel_rfl
theorem sp10b : joinP [⟨#[120, 110, 45, 45, 98, 99, 104, 101, 114, 45, 107, 118, 97]⟩, ⟨#[101, 120, 97, 109, 112, 108, 101]⟩] = exA := by kernel_rfl
theorem sp10c : (cutP exN).size = 15 := by decide +kernel
theorem sp10 {r : Except (Nat × Nat) ByteArray} (h : NameIs exN r) : r = .ok exA := by
  cases h with
  | empty h => rw [sp10c] at h; cases h
  | many i h h1 h2 h3 =>
    have := (cutAt_le (cutP exN) 46 (i + 1)).1
    rw [sp10c] at h1
    omega
  | bad e h h1 h2 => rw [sp10a] at h2; cases h2
  | long xs h h1 h2 h3 =>
    rw [sp10a] at h2
    cases h2
    rw [sp10b] at h3
    exact absurd h3 (by decide)
  | ok xs h h1 h2 h3 =>
    rw [sp10a] at h2
    cases h2
    rw [sp10b]
theorem sp10d : rightL ⟨#[97, 45, 45, 98]⟩ = (0, 0) := by decide +kernel
theorem sp10e : rightL ⟨#[97, 98, 45, 45, 99]⟩ = (24, 0) := by decide +kernel
set_option maxHeartbeats 3200000 in
set_option maxRecDepth 100000 in
theorem speaks10 (w : World) (hg : Handle w) (hS : SpanLaid w) (hU : Utf8Laid w) : Calls Tryz.prog 9 #[] w fun e w' => e = .returned (.bool true) ∧ Below w.heap.size w w' := by
  have c1 : ∀ W, Handle W → SpanLaid W → Utf8Laid W → Calls Tryz.prog 14 #[.string exN] W fun e w' => e = .returned (.tuple #[.string exA, .nilIface]) ∧ Below W.heap.size W w' := fun W h1 h2 h3 =>
    (label_Name exN W h1 h2 h3 (by decide)).mono fun e w' ⟨hb, h⟩ => by
      rcases h with ⟨k, i, v, hN, _⟩ | ⟨t, hN, he⟩
      · have := sp10 hN; cases this
      · have := sp10 hN
        injection this with this
        subst this
        exact ⟨he, hb⟩
  have c2 : ∀ W, SpanLaid W → Calls Tryz.prog 13 #[.string ⟨#[97, 45, 45, 98]⟩] W fun e w' => e = .returned .nilIface ∧ Below W.heap.size W w' := fun W h =>
    (label_Right ⟨#[97, 45, 45, 98]⟩ W h (by decide)).mono fun e w' ⟨hb, v, he, hv⟩ => by
      rw [sp10d] at hv
      rcases hv with ⟨_, rfl⟩ | ⟨h0, _⟩
      · exact ⟨he, hb⟩
      · exact absurd rfl h0
  have c3 : ∀ W, SpanLaid W → Calls Tryz.prog 13 #[.string ⟨#[97, 98, 45, 45, 99]⟩] W fun e w' => ∃ v, e = .returned v ∧ IsFault w' v 24 0 ∧ Below W.heap.size W w' := fun W h =>
    (label_Right ⟨#[97, 98, 45, 45, 99]⟩ W h (by decide)).mono fun e w' ⟨hb, v, he, hv⟩ => by
      rw [sp10e] at hv
      rcases hv with ⟨h0, _⟩ | ⟨_, hv⟩
      · cases h0
      · exact ⟨v, he, hv, hb⟩
  have C1 := Lib.hid c1
  have C2 := Lib.hid c2
  have C3 := Lib.hid c3
  clear c1 c2 c3
  have e1 : (exA.toList == [120, 110, 45, 45, 98, 99, 104, 101, 114, 45, 107, 118, 97, 46, 101, 120, 97, 109, 112, 108, 101]) = true := by decide +kernel
  go_enter Tryz.func9, Tryz.ntmps9
  go_wp2_with fail
  refine (C1.out _ hg hS hU).mono ?_
  rintro e w1 ⟨rfl, hb1⟩
  have hS1 := hS.below hb1
  go_wp2_with fail
  refine (C2.out _ hS1).mono ?_
  rintro e w2 ⟨rfl, hb2⟩
  have hS2 := hS1.below hb2
  have hb12 := Bt hb1 hb2
  go_wp2_with fail
  refine (C3.out _ hS2).mono ?_
  rintro e w3 ⟨v, rfl, hv, hb3⟩
  have hb13 := Bt hb12 hb3
  have HV := Lib.hid hv
  obtain ⟨p, rfl⟩ := hv.ne_nil
  clear hv
  go_wp2_with fail
  refine (fault_Has _ _ _ _ _ HV.out).mono ?_
  rintro e w4 ⟨rfl, rfl⟩
  have e4 : isKind 24 24 = true := rfl
  go_wp2_with fail
  go_ret
  exact ⟨rfl, hb13⟩
end Go.Proofs.YtbonnmkkacplgaaGreatDoor

/- A label of a letter and a character, in plain words. -/
namespace Go.Proofs.YtbonnmkkacplgaaGreatDoor
open Go.RowKit

theorem markL_two {c : Nat} (h : 128 ≤ c) : markL [97, c] = [c] := by
  apply up_unique
  · exact markL_up _
  · simp
  · intro x
    rw [markL_mem]
    simp
    constructor
    · rintro ⟨rfl | rfl, h2⟩
      · omega
      · rfl
    · rintro rfl
      exact ⟨.inr rfl, h⟩
theorem encN_two {c : Nat} (h : 128 ≤ c) : encN [97, c] = [97, 45] ++ numD ((c - 128) * 2 + 1) 72 := by
  have hb : basicL [97, c] = [97] := by
    unfold basicL
    have : ([97, c] : List Nat).filter (fun c => decide (c < 128)) = [97] := by
      rw [List.filter_cons_of_pos (by decide), List.filter_cons_of_neg (by simp; omega)]
      rfl
    rw [this]
    rfl
  have ho : basicO [97, c] = [97, 45] := by unfold basicO; rw [hb]; rfl
  unfold encN
  rw [markL_two h, hb, ho]
  show (nextC (roundC [97, c] 1 c 128 ⟨0, 72, 1, [97, 45]⟩)).out = _
  unfold nextC roundC
  simp only [List.foldl_cons, List.foldl_nil]
  have e1 : stepC c 1 ⟨0 + (c - 128) * (1 + 1), 72, 1, [97, 45]⟩ 97 = ⟨(c - 128) * 2 + 1, 72, 1, [97, 45]⟩ := by
    unfold stepC
    rw [if_pos (by omega)]
    simp
  rw [e1]
  unfold stepC
  rw [if_neg (by omega), if_pos rfl]
theorem ascii_two {c : Nat} (h : 128 ≤ c) (h2 : c ≤ 1114111) : ((charZ (c : Int) = true ∧ ∃ t : ByteArray, asciiW [97, c] = .ok t ∧ 5 < t.size ∧ (t.extract 0 4).toList = [120, 110, 45, 45]) ∨ (charZ (c : Int) = false ∧ ∃ k i, asciiW [97, c] = .error (k, i))) := by
  have hs : smallZ (c : Int) = false := decide_eq_false (by omega)
  have hm : mayB c = charZ (c : Int) := by unfold mayB; rw [hs]; rfl
  have h97 : mayB 97 = true := by decide
  cases hc : charZ (c : Int) with
  | true =>
    left
    rw [hc] at hm
    have hb : badC [97, c] 0 = none := by rw [badC_next h97, badC_next hm]; rfl
    have hmk : marksL [97, c] = true := marks_yes (by simp) (by simp) (by simp; omega) (.inl (by simp))
    have hl := numD_len (n := (c - 128) * 2 + 1) (b := 72) (by omega)
    have he := encN_two h
    have hlen : (encN [97, c]).length = 2 + (numD ((c - 128) * 2 + 1) 72).length := by rw [he]; simp; omega
    refine ⟨rfl, _, asciiW_ok hb hmk (by simp; omega), ?_, ?_⟩
    · show 5 < (xnL ++ encN [97, c]).toArray.size
      simp [xnL]
      omega
    · rw [ByteArray.toList_eq]
      simp [xnL]
  | false =>
    right
    rw [hc] at hm
    exact ⟨rfl, 11, _, asciiW_bad (by rw [badC_next h97, badC_hit hm])⟩
theorem lowerB_high {b : UInt8} (h : 128 ≤ b.toNat) : lowerB b = b := by
  apply UInt8.toNat_inj.1
  rw [lowerB_nat]
  unfold smallN
  split <;> omega
theorem putL_high {c : Nat} (h : 128 ≤ c) (h2 : c ≤ 1114111) : ∀ b ∈ putL c, 128 ≤ b.toNat := by
  intro b hb
  unfold putL at hb
  obtain ⟨n, hn, rfl⟩ := List.mem_map.1 hb
  unfold putN at hn
  split at hn
  · omega
  · split at hn
    · simp at hn
      rcases hn with rfl | rfl
      · rw [UInt8.toNat_ofNat_of_lt' (by have : 192 + c / 64 < 256 := by omega
                                         exact this)]; omega
      · rw [UInt8.toNat_ofNat_of_lt' (by have : 128 + c % 64 < 256 := by omega
                                         exact this)]; omega
    · split at hn
      · simp at hn
        rcases hn with rfl | rfl | rfl
        · rw [UInt8.toNat_ofNat_of_lt' (by have : 224 + c / 4096 < 256 := by omega
                                           exact this)]; omega
        · rw [UInt8.toNat_ofNat_of_lt' (by have : 128 + c / 64 % 64 < 256 := by omega
                                           exact this)]; omega
        · rw [UInt8.toNat_ofNat_of_lt' (by have : 128 + c % 64 < 256 := by omega
                                           exact this)]; omega
      · simp at hn
        rcases hn with rfl | rfl | rfl | rfl
        · rw [UInt8.toNat_ofNat_of_lt' (by have : 240 + c / 262144 < 256 := by omega
                                           exact this)]; omega
        · rw [UInt8.toNat_ofNat_of_lt' (by have : 128 + c / 4096 % 64 < 256 := by omega
                                           exact this)]; omega
        · rw [UInt8.toNat_ofNat_of_lt' (by have : 128 + c / 64 % 64 < 256 := by omega
                                           exact this)]; omega
        · rw [UInt8.toNat_ofNat_of_lt' (by have : 128 + c % 64 < 256 := by omega
                                           exact this)]; omega
theorem ascii_char {c : Nat} (h : 128 ≤ c) (hr : rightB (c : Int) = true) (h2 : c ≤ 1114111) : asciiL ⟨(97 :: putL c).toArray⟩ = asciiW [97, c] := by
  have hrc := (rightC_iff c).2 hr
  have hput : putAll [97, c] = 97 :: putL c := by
    show putL 97 ++ (putL c ++ []) = _
    rw [List.append_nil]
    rfl
  have hch : chrs ⟨(97 :: putL c).toArray⟩ = ([97, c], none) := by
    rw [← hput]
    exact chrs_put [97, c] fun x hx => by
      simp at hx
      rcases hx with rfl | rfl
      · exact .inl (by omega)
      · exact hrc
  have hlow : lowerS ⟨(97 :: putL c).toArray⟩ = ⟨(97 :: putL c).toArray⟩ := by
    have e0 : lowerS ⟨(97 :: putL c).toArray⟩ = ⟨((97 :: putL c).map lowerB).toArray⟩ := rfl
    have e1 : (putL c).map lowerB = putL c := by
      have := List.map_congr_left (l := putL c) (f := lowerB) (g := id) fun b hb => lowerB_high (putL_high h h2 b hb)
      rw [this, List.map_id]
    have e2 : lowerB 97 = 97 := by decide
    rw [e0, List.map_cons, e1, e2]
  rw [asciiL_wide (by rw [hch]) (by rw [hch]; unfold wideL; simp [h]), hlow, lowC_ok (by rw [hch]), hch]
end Go.Proofs.YtbonnmkkacplgaaGreatDoor

/- What ASCII gives is right, and stands. -/
namespace Go.Proofs.YtbonnmkkacplgaaGreatDoor
open Go.RowKit

def SmB (c : UInt8) : Prop := smallZ (c.toNat : Int) = true
theorem sm_dig {n : Nat} (h : n < 36) : SmB (digN n) ∧ digN n ≠ 45 := by
  have : ∀ n : Fin 36, smallZ ((digN n.1).toNat : Int) = true ∧ digN n.1 ≠ 45 := by decide
  exact this ⟨n, h⟩
theorem numL_sm : ∀ (f n k b : Nat), n ≤ f → ∀ c ∈ numL f n k b, SmB c ∧ c ≠ 45 := by
  intro f
  induction f with
  | zero =>
    intro n k b hn c hc
    obtain rfl : n = 0 := by omega
    rw [numL_last (by have := thrN_range k b; omega)] at hc
    obtain rfl := List.mem_singleton.1 hc
    exact sm_dig (by decide)
  | succ f ih =>
    intro n k b hn c hc
    have ht := thrN_range k b
    by_cases h : n < thrN k b
    · rw [numL_last h] at hc
      obtain rfl := List.mem_singleton.1 hc
      exact sm_dig (by omega)
    · rw [numL_more h] at hc
      have hml : (n - thrN k b) % (36 - thrN k b) < 36 - thrN k b := Nat.mod_lt _ (by omega)
      rcases List.mem_cons.1 hc with rfl | hc
      · exact sm_dig (by omega)
      · exact ih _ _ _ (by have := num_less h; omega) c hc
def MoreS (u v : PSt) : Prop := ∃ r : List UInt8, v.out = u.out ++ r ∧ ∀ c ∈ r, SmB c ∧ c ≠ 45
theorem MoreS.refl (u : PSt) : MoreS u u := ⟨[], by simp, fun _ h => by cases h⟩
theorem MoreS.trans {u v x : PSt} (h : MoreS u v) (h2 : MoreS v x) : MoreS u x := by
  obtain ⟨r, e, a⟩ := h
  obtain ⟨r2, e2, a2⟩ := h2
  refine ⟨r ++ r2, by rw [e2, e, List.append_assoc], fun c hc => ?_⟩
  rcases List.mem_append.1 hc with h | h
  · exact a c h
  · exact a2 c h
theorem step_moreS (m basic : Nat) (u : PSt) (c : Nat) : MoreS u (stepC m basic u c) := by
  unfold stepC
  split
  · exact ⟨[], by simp, fun _ h => by cases h⟩
  · split
    · exact ⟨numD u.delta u.bias, rfl, numL_sm _ _ _ _ (Nat.le_refl _)⟩
    · exact MoreS.refl u
theorem fold_moreS (m basic : Nat) : ∀ (l : List Nat) (u : PSt), MoreS u (l.foldl (stepC m basic) u) := by
  intro l
  induction l with
  | nil => intro u; exact MoreS.refl u
  | cons c l ih => intro u; exact (step_moreS m basic u c).trans (ih _)
theorem enc_moreS (cs : List Nat) (basic : Nat) : ∀ (ms : List Nat) (n : Nat) (u : PSt), MoreS u (encR cs basic ms n u) := by
  intro ms
  induction ms with
  | nil => intro n u; exact MoreS.refl u
  | cons m ms ih =>
    intro n u
    have h1 : MoreS u (roundC cs basic m n u) := (show MoreS u ⟨u.delta + (m - n) * (u.h + 1), u.bias, u.h, u.out⟩ from ⟨[], by simp, fun _ h => by cases h⟩).trans (fold_moreS m basic cs _)
    exact (h1.trans (show MoreS (roundC cs basic m n u) (nextC (roundC cs basic m n u)) from ⟨[], by simp [nextC], fun _ h => by cases h⟩)).trans (ih _ _)
theorem encN_parts (cs : List Nat) : ∃ r, encN cs = basicO cs ++ r ∧ ∀ c ∈ r, SmB c ∧ c ≠ 45 := enc_moreS cs (basicL cs).length (markL cs) 128 ⟨0, 72, (basicL cs).length, basicO cs⟩
theorem markL_low : ∀ l : List Nat, (∀ c ∈ l, c < 128) → markL l = [] := by
  intro l
  induction l with
  | nil => intro _; rfl
  | cons c l ih =>
    intro h
    show (if c < 128 then markL l else insU c (markL l)) = []
    rw [if_pos (h c (by simp))]
    exact ih fun x hx => h x (by simp [hx])
theorem encN_low (l : List Nat) (h : ∀ c ∈ l, c < 128) : encN l = basicO l := by
  unfold encN
  rw [markL_low l h]
  rfl
/-- A wide row's code ends in a digit. -/
theorem encN_wide {l : List Nat} (hr : ∀ c ∈ l, rightB (c : Int) = true) (hl : l.length ≤ 256) (h1024 : (encN l).length ≤ 1024) (hw : wideL l = true) : ∃ r, encN l = basicO l ++ r ∧ r ≠ [] ∧ ∀ c ∈ r, SmB c ∧ c ≠ 45 := by
  obtain ⟨r, e, h⟩ := encN_parts l
  refine ⟨r, e, ?_, h⟩
  rintro rfl
  rw [List.append_nil] at e
  have hlow : ∀ c ∈ l.filter (fun c => decide (c < 128)), c < 128 := fun c hc => of_decide_eq_true (List.mem_filter.1 hc).2
  have e2 : encN (l.filter fun c => decide (c < 128)) = basicO l := by
    rw [encN_low _ hlow]
    have : basicL (l.filter fun c => decide (c < 128)) = basicL l := by
      unfold basicL
      rw [List.filter_filter]
      simp
    unfold basicO
    rw [this]
  have d1 := dec_encN l hr hl h1024
  have d2 := dec_encN (l.filter fun c => decide (c < 128)) (fun c hc => hr c (List.mem_filter.1 hc).1) (Nat.le_trans (List.length_filter_le _ _) hl) (by rw [e2, ← e]; exact h1024)
  rw [e2, ← e, d1] at d2
  have d3 : l = l.filter fun c => decide (c < 128) := Except.ok.inj d2
  unfold wideL at hw
  obtain ⟨c, hc, h128⟩ := List.any_eq_true.1 hw
  rw [d3] at hc
  have := hlow c hc
  have := of_decide_eq_true h128
  omega
theorem sm_lower {b : UInt8} (h : SmB b) : lowerB b = b := by
  have h2 := of_decide_eq_true h
  apply UInt8.toNat_inj.1
  rw [lowerB_nat]
  unfold smallN
  split <;> omega
theorem sm_lt {b : UInt8} (h : SmB b) : b.toNat < 128 := by
  have h2 := of_decide_eq_true h
  omega
theorem badAt_none {s : ByteArray} : ∀ r k, badAt s r k = none ↔ ∀ j, k ≤ j → j < k + r → SmB (byteAt s j) := by
  intro r
  induction r with
  | zero => intro k; exact ⟨fun _ j h1 h2 => by omega, fun _ => rfl⟩
  | succ r ih =>
    intro k
    cases hs : smallZ ((byteAt s k).toNat : Int) with
    | true =>
      rw [bad_next hs, ih]
      constructor
      · intro h j h1 h2
        by_cases hj : j = k
        · subst hj; exact hs
        · exact h j (by omega) (by omega)
      · intro h j h1 h2
        exact h j (by omega) (by omega)
    | false =>
      rw [bad_hit hs]
      constructor
      · intro h; cases h
      · intro h
        have := h k (by omega) (by omega)
        unfold SmB at this
        rw [hs] at this
        cases this
theorem all_sm {s : ByteArray} : badAt s s.size 0 = none ↔ ∀ b ∈ s.data.toList, SmB b := by
  rw [badAt_none]
  have hl : s.data.toList.length = s.size := rfl
  constructor
  · intro h b hb
    obtain ⟨j, hj, rfl⟩ := List.getElem_of_mem hb
    have := h j (by omega) (by omega)
    have e : byteAt s j = s.data.toList[j] := by simp only [byteAt, List.getD, List.getElem?_eq_getElem hj]; rfl
    rw [e] at this
    exact this
  · intro h j _ hj
    have hj2 : j < s.data.toList.length := by omega
    have e : byteAt s j = s.data.toList[j] := by simp only [byteAt, List.getD, List.getElem?_eq_getElem hj2]; rfl
    rw [e]
    exact h _ (List.getElem_mem hj2)
theorem putL_sm {b : UInt8} (h : b.toNat < 128) : putL b.toNat = [b] := by
  unfold putL putN
  rw [if_pos (by omega)]
  simp
theorem putAll_low : ∀ l : List UInt8, (∀ b ∈ l, b.toNat < 128) → putAll (l.map UInt8.toNat) = l := by
  intro l
  induction l with
  | nil => intro _; rfl
  | cons b l ih =>
    intro h
    have e : putAll ((b :: l).map UInt8.toNat) = putL b.toNat ++ putAll (l.map UInt8.toNat) := rfl
    rw [e, putL_sm (h b (by simp)), ih fun x hx => h x (by simp [hx])]
    rfl
theorem chrs_low {s : ByteArray} (h : ∀ b ∈ s.data.toList, b.toNat < 128) : chrs s = (s.data.toList.map UInt8.toNat, none) := by
  have e : s = ⟨(putAll (s.data.toList.map UInt8.toNat)).toArray⟩ := by rw [putAll_low _ h]
  have := chrs_put (s.data.toList.map UInt8.toNat) fun x hx => by
    obtain ⟨b, hb, rfl⟩ := List.mem_map.1 hx
    exact .inl (by have := h b hb; omega)
  rw [← e] at this
  exact this
theorem lowerS_sm {s : ByteArray} (h : ∀ b ∈ s.data.toList, SmB b) : lowerS s = s := by
  apply ba_ext
  show (s.data.toList.map lowerB) = s.data.toList
  have := List.map_congr_left (l := s.data.toList) (f := lowerB) (g := id) fun b hb => sm_lower (h b hb)
  rw [this, List.map_id]
/-- A right label stands for itself. -/
theorem ascii_fix {t : ByteArray} (h : (rightL t).1 = 0) : asciiL t = .ok t := by
  have hb : badAt t t.size 0 = none := by
    cases hb : badAt t t.size 0 with
    | none => rfl
    | some i =>
      exfalso
      by_cases h0 : t.size = 0
      · rw [rightL_empty h0] at h; cases h
      · by_cases h1 : 63 < t.size
        · rw [rightL_long h0 h1] at h; cases h
        · rw [rightL_bad h0 h1 hb] at h; cases h
  have hs := all_sm.1 hb
  have hc := chrs_low fun b hb => sm_lt (hs b hb)
  have hlo := lowerS_sm hs
  have hw : wideL (chrs t).1 = false := by
    rw [hc]
    cases hw : wideL (t.data.toList.map UInt8.toNat) with
    | false => rfl
    | true =>
      obtain ⟨c, hc, h128⟩ := List.any_eq_true.1 hw
      obtain ⟨b, hb, rfl⟩ := List.mem_map.1 hc
      have := sm_lt (hs b hb)
      have := of_decide_eq_true h128
      omega
  rw [asciiL_low (by rw [hc]) hw (by rw [hlo]; exact h), hlo]
theorem badC_may : ∀ (l : List Nat) (k : Nat), badC l k = none → ∀ c ∈ l, mayB c = true := by
  intro l
  induction l with
  | nil => intro k _ c hc; cases hc
  | cons x l ih =>
    intro k h c hc
    cases hm : mayB x with
    | false => rw [badC_hit hm] at h; cases h
    | true =>
      rw [badC_next hm] at h
      rcases List.mem_cons.1 hc with rfl | hc
      · exact hm
      · exact ih _ h c hc
theorem asciiW_inv {l : List Nat} {t : ByteArray} (h : asciiW l = .ok t) : badC l 0 = none ∧ marksL l = true ∧ l.length ≤ 256 ∧ (encN l).length ≤ 59 ∧ t = ⟨(xnL ++ encN l).toArray⟩ := by
  cases hb : badC l 0 with
  | some i => rw [asciiW_bad hb] at h; cases h
  | none =>
    cases hm : marksL l with
    | false => rw [asciiW_marks hb hm] at h; cases h
    | true =>
      by_cases h3 : 256 < l.length ∨ 59 < (encN l).length
      · rw [asciiW_long hb hm h3] at h; cases h
      · rw [asciiW_ok hb hm h3] at h
        exact ⟨rfl, rfl, by omega, by omega, (Except.ok.inj h).symm⟩
/-- The code of a wide row is a right label. -/
theorem wide_right {l : List Nat} (hr : ∀ c ∈ l, rightB (c : Int) = true) (hw : wideL l = true) (ha : ∀ c ∈ l, mayB c = true) (hm : marksL l = true) (hl : l.length ≤ 256) (he : (encN l).length ≤ 59) :
    (rightL ⟨(xnL ++ encN l).toArray⟩).1 = 0 ∧ labD ⟨(xnL ++ encN l).toArray⟩ = some l := by
  obtain ⟨r, e, hr0, hrs⟩ := encN_wide hr hl (by omega) hw
  have hbo : bodyS ⟨(xnL ++ encN l).toArray⟩ = ⟨(encN l).toArray⟩ := rfl
  have hpre : Lib.hasPrefix (⟨(xnL ++ encN l).toArray⟩ : ByteArray).data.toList xnL = true := rfl
  have hlab : labD ⟨(xnL ++ encN l).toArray⟩ = some l := by
    rw [labD_ok hpre (by rw [hbo]; exact dec_encN l hr hl (by omega)), if_pos ⟨List.all_eq_true.2 ha, hw, by rw [hbo], hm⟩]
  refine ⟨?_, hlab⟩
  have hsz : (⟨(xnL ++ encN l).toArray⟩ : ByteArray).size = 4 + (encN l).length := by
    show (xnL ++ encN l).toArray.size = _
    simp [xnL]
    omega
  have hall : ∀ b ∈ (⟨(xnL ++ encN l).toArray⟩ : ByteArray).data.toList, SmB b := by
    intro b hb
    have hb : b ∈ xnL ++ encN l := hb
    rcases List.mem_append.1 hb with hb | hb
    · unfold xnL at hb
      simp at hb
      rcases hb with rfl | rfl | rfl <;> rfl
    · rw [e] at hb
      rcases List.mem_append.1 hb with hb | hb
      · unfold basicO at hb
        split at hb
        · cases hb
        · rcases List.mem_append.1 hb with hb | hb
          · unfold basicL at hb
            obtain ⟨c, hc, rfl⟩ := List.mem_map.1 hb
            obtain ⟨hc1, hc2⟩ := List.mem_filter.1 hc
            have hc2 := of_decide_eq_true hc2
            have hmc := ha c hc1
            unfold mayB at hmc
            have : charZ (c : Int) = false := char_out (by unfold inSpan; omega)
            rw [this, Bool.or_false] at hmc
            unfold SmB
            rw [UInt8.toNat_ofNat_of_lt' (show c < 256 by omega)]
            exact hmc
          · obtain rfl := List.mem_singleton.1 hb
            rfl
      · exact (hrs b hb).1
  have hb := all_sm.2 hall
  have hfine : fineB ⟨(xnL ++ encN l).toArray⟩ = true := by
    unfold fineB
    rw [hlab]
    have h0 : byteAt ⟨(xnL ++ encN l).toArray⟩ 0 ≠ 45 := by
      have : byteAt ⟨(xnL ++ encN l).toArray⟩ 0 = 120 := rfl
      rw [this]
      decide
    have h1 : byteAt ⟨(xnL ++ encN l).toArray⟩ ((⟨(xnL ++ encN l).toArray⟩ : ByteArray).size - 1) ≠ 45 := by
      have hx : byteAt ⟨(xnL ++ encN l).toArray⟩ ((⟨(xnL ++ encN l).toArray⟩ : ByteArray).size - 1) ∈ r := by
        have e1 : byteAt ⟨(xnL ++ encN l).toArray⟩ ((⟨(xnL ++ encN l).toArray⟩ : ByteArray).size - 1) = (xnL ++ basicO l ++ r).getD ((xnL ++ basicO l ++ r).length - 1) 0 := by
          rw [hsz]
          have e2 : xnL ++ basicO l ++ r = xnL ++ encN l := by rw [e, List.append_assoc]
          rw [e2]
          have e3 : (xnL ++ encN l).length = 4 + (encN l).length := by simp [xnL]; omega
          rw [e3]
          simp [byteAt]
        rw [e1]
        have hrl : 0 < r.length := List.length_pos_iff.2 hr0
        have hln : (xnL ++ basicO l ++ r).length = (xnL ++ basicO l).length + r.length := List.length_append
        rw [hln]
        simp only [List.getD]
        rw [List.getElem?_append_right (by omega), List.getElem?_eq_getElem (by omega)]
        exact List.getElem_mem _
      exact (hrs _ hx).2
    rw [decide_eq_true h0, decide_eq_true h1]
    simp
  rw [rightL_fine (by omega) (by omega) hb, if_pos hfine]
theorem lower_put {c : Nat} (h : rightC c) : (putL c).map lowerB = putL (smallN c) := by
  by_cases h1 : c < 128
  · have : ∀ c : Fin 128, (putL c.1).map lowerB = putL (smallN c.1) := by decide +kernel
    exact this ⟨c, h1⟩
  · have e : smallN c = c := by unfold smallN; rw [if_neg (by omega)]
    rw [e]
    have := List.map_congr_left (l := putL c) (f := lowerB) (g := id) fun b hb => lowerB_high (putL_high (by omega) (by have := rightC_lt h; omega) b hb)
    rw [this, List.map_id]
theorem lower_all : ∀ l : List Nat, (∀ c ∈ l, rightC c) → (putAll l).map lowerB = putAll (l.map smallN) := by
  intro l
  induction l with
  | nil => intro _; rfl
  | cons c l ih =>
    intro h
    rw [putAll_cons, List.map_append, lower_put (h c (by simp)), ih fun x hx => h x (by simp [hx]), List.map_cons, putAll_cons]
theorem small_rightC {c : Nat} (h : rightC c) : rightC (smallN c) := by
  unfold smallN
  split
  · exact .inl (by omega)
  · exact h
theorem lower_chrs {s : ByteArray} (h : (chrs s).2 = none) : chrs (lowerS s) = ((chrs s).1.map smallN, none) := by
  have hr := right_chrs s
  have e : lowerS s = ⟨(putAll ((chrs s).1.map smallN)).toArray⟩ := by
    have : lowerS s = ⟨(s.data.toList.map lowerB).toArray⟩ := rfl
    rw [this, ← put_chrs s h, lower_all _ hr]
  rw [e]
  exact chrs_put _ fun x hx => by
    obtain ⟨c, hc, rfl⟩ := List.mem_map.1 hx
    exact small_rightC (hr c hc)
theorem wide_lower {s : ByteArray} (h : (chrs s).2 = none) : wideL (lowC (lowerS s)) = wideL (chrs s).1 := by
  have e := lower_chrs h
  rw [lowC_ok (by rw [e]), e]
  unfold wideL
  rw [List.any_map]
  congr 1
  funext c
  show decide (128 ≤ smallN c) = decide (128 ≤ c)
  unfold smallN
  split
  · rw [decide_eq_false (by omega), decide_eq_false (by omega)]
  · rfl
/-- What ASCII gives is right. -/
theorem ascii_right {s t : ByteArray} (h : asciiL s = .ok t) : (rightL t).1 = 0 := by
  cases hc : (chrs s).2 with
  | some i => rw [asciiL_utf hc] at h; cases h
  | none =>
    cases hw : wideL (chrs s).1 with
    | false =>
      by_cases h3 : (rightL (lowerS s)).1 = 0
      · rw [asciiL_low hc hw h3] at h
        rw [← Except.ok.inj h]
        exact h3
      · rw [asciiL_err hc hw h3] at h; cases h
    | true =>
      rw [asciiL_wide hc hw] at h
      obtain ⟨h1, h2, h3, h4, rfl⟩ := asciiW_inv h
      exact (wide_right (lowC_right _) (by rw [wide_lower hc]; exact hw) (badC_may _ _ h1) h2 h3 h4).1
end Go.Proofs.YtbonnmkkacplgaaGreatDoor
