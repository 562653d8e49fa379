/- The examples of chapter 10's statements. -/
import Derived.Test.YtbonnmkkacplgaaGreatDoorLabelCharsM20
import Derived.Test.YtbonnmkkacplgaaGreatDoorLabelCharsM19
import Derived.Test.YtbonnmkkacplgaaGreatDoorLabelCharsM17
import Derived.Test.YtbonnmkkacplgaaGreatDoorLabelCharsM2
import Derived.Test.YtbonnmkkacplgaaGreatDoorLabelCharsM5
import Derived.Deep.RegionHeld
import Derived.IntWalk
import Derived.Deep.DeepCutAuto

namespace Go.Proofs.YtbonnmkkacplgaaGreatDoor
open Go.RowKit

def exN : ByteArray := ⟨#[66, 195, 188, 99, 104, 101, 114, 46, 69, 120, 97, 109, 112, 108, 101, 46]⟩
def exA : ByteArray := ⟨#[120, 110, 45, 45, 98, 99, 104, 101, 114, 45, 107, 118, 97, 46, 101, 120, 97, 109, 112, 108, 101]⟩
theorem sp10a : nameF (fieldsB (cutP exN)) 0 = .ok [⟨#[120, 110, 45, 45, 98, 99, 104, 101, 114, 45, 107, 118, 97]⟩, ⟨#[101, 120, 97, 109, 112, 108, 101]⟩] := by kernel_rfl
theorem sp10b : joinP [⟨#[120, 110, 45, 45, 98, 99, 104, 101, 114, 45, 107, 118, 97]⟩, ⟨#[101, 120, 97, 109, 112, 108, 101]⟩] = exA := by kernel_rfl
theorem sp10c : (cutP exN).size = 15 := by decide +kernel
theorem sp10 {r : Except (Nat × Nat) ByteArray} (h : NameIs exN r) : r = .ok exA := by
  cases h with
  | empty h => rw [sp10c] at h; cases h
  | many i h h1 h2 h3 =>
    have := (cutAt_le (cutP exN) 46 (i + 1)).1
    rw [sp10c] at h1
    omega
  | bad e h h1 h2 => rw [sp10a] at h2; cases h2
  | long xs h h1 h2 h3 =>
    rw [sp10a] at h2
    cases h2
    rw [sp10b] at h3
    exact absurd h3 (by decide)
  | ok xs h h1 h2 h3 =>
    rw [sp10a] at h2
    cases h2
    rw [sp10b]
theorem sp10d : rightL ⟨#[97, 45, 45, 98]⟩ = (0, 0) := by decide +kernel
theorem sp10e : rightL ⟨#[97, 98, 45, 45, 99]⟩ = (24, 0) := by decide +kernel
set_option maxHeartbeats 3200000 in
set_option maxRecDepth 100000 in
theorem speaks10 (w : World) (hg : Handle w) (hS : SpanLaid w) (hU : Utf8Laid w) : Calls Tryz.prog 9 #[] w fun e w' => e = .returned (.bool true) ∧ Below w.heap.size w w' := by
  have c1 : ∀ W, Handle W → SpanLaid W → Utf8Laid W → Calls Tryz.prog 14 #[.string exN] W fun e w' => e = .returned (.tuple #[.string exA, .nilIface]) ∧ Below W.heap.size W w' := fun W h1 h2 h3 =>
    (label_Name exN W h1 h2 h3 (by decide)).mono fun e w' ⟨hb, h⟩ => by
      rcases h with ⟨k, i, v, hN, _⟩ | ⟨t, hN, he⟩
      · have := sp10 hN; cases this
      · have := sp10 hN
        injection this with this
        subst this
        exact ⟨he, hb⟩
  have c2 : ∀ W, SpanLaid W → Calls Tryz.prog 13 #[.string ⟨#[97, 45, 45, 98]⟩] W fun e w' => e = .returned .nilIface ∧ Below W.heap.size W w' := fun W h =>
    (label_Right ⟨#[97, 45, 45, 98]⟩ W h (by decide)).mono fun e w' ⟨hb, v, he, hv⟩ => by
      rw [sp10d] at hv
      rcases hv with ⟨_, rfl⟩ | ⟨h0, _⟩
      · exact ⟨he, hb⟩
      · exact absurd rfl h0
  have c3 : ∀ W, SpanLaid W → Calls Tryz.prog 13 #[.string ⟨#[97, 98, 45, 45, 99]⟩] W fun e w' => ∃ v, e = .returned v ∧ IsFault w' v 24 0 ∧ Below W.heap.size W w' := fun W h =>
    (label_Right ⟨#[97, 98, 45, 45, 99]⟩ W h (by decide)).mono fun e w' ⟨hb, v, he, hv⟩ => by
      rw [sp10e] at hv
      rcases hv with ⟨h0, _⟩ | ⟨_, hv⟩
      · cases h0
      · exact ⟨v, he, hv, hb⟩
  have C1 := Lib.hid c1
  have C2 := Lib.hid c2
  have C3 := Lib.hid c3
  clear c1 c2 c3
  have e1 : (exA.toList == [120, 110, 45, 45, 98, 99, 104, 101, 114, 45, 107, 118, 97, 46, 101, 120, 97, 109, 112, 108, 101]) = true := by decide +kernel
  go_enter Tryz.func9, Tryz.ntmps9
  go_wp2_with fail
  refine (C1.out _ hg hS hU).mono ?_
  rintro e w1 ⟨rfl, hb1⟩
  have hS1 := hS.below hb1
  go_wp2_with fail
  refine (C2.out _ hS1).mono ?_
  rintro e w2 ⟨rfl, hb2⟩
  have hS2 := hS1.below hb2
  have hb12 := Bt hb1 hb2
  go_wp2_with fail
  refine (C3.out _ hS2).mono ?_
  rintro e w3 ⟨v, rfl, hv, hb3⟩
  have hb13 := Bt hb12 hb3
  have HV := Lib.hid hv
  obtain ⟨p, rfl⟩ := hv.ne_nil
  clear hv
  go_wp2_with fail
  refine (fault_Has _ _ _ _ _ HV.out).mono ?_
  rintro e w4 ⟨rfl, rfl⟩
  have e4 : isKind 24 24 = true := rfl
  go_wp2_with fail
  go_ret
  exact ⟨rfl, hb13⟩
end Go.Proofs.YtbonnmkkacplgaaGreatDoor

/- A label of a letter and a character, in plain words. -/
namespace Go.Proofs.YtbonnmkkacplgaaGreatDoor
open Go.RowKit

theorem markL_two {c : Nat} (h : 128 ≤ c) : markL [97, c] = [c] := by
  apply up_unique
  · exact markL_up _
  · simp
  · intro x
    rw [markL_mem]
    simp
    constructor
    · rintro ⟨rfl | rfl, h2⟩
      · omega
      · rfl
    · rintro rfl
      exact ⟨.inr rfl, h⟩
theorem encN_two {c : Nat} (h : 128 ≤ c) : encN [97, c] = [97, 45] ++ numD ((c - 128) * 2 + 1) 72 := by
  have hb : basicL [97, c] = [97] := by
    unfold basicL
    have : ([97, c] : List Nat).filter (fun c => decide (c < 128)) = [97] := by
      rw [List.filter_cons_of_pos (by decide), List.filter_cons_of_neg (by simp; omega)]
      rfl
    rw [this]
    rfl
  have ho : basicO [97, c] = [97, 45] := by unfold basicO; rw [hb]; rfl
  unfold encN
  rw [markL_two h, hb, ho]
  show (nextC (roundC [97, c] 1 c 128 ⟨0, 72, 1, [97, 45]⟩)).out = _
  unfold nextC roundC
  simp only [List.foldl_cons, List.foldl_nil]
  have e1 : stepC c 1 ⟨0 + (c - 128) * (1 + 1), 72, 1, [97, 45]⟩ 97 = ⟨(c - 128) * 2 + 1, 72, 1, [97, 45]⟩ := by
    unfold stepC
    rw [if_pos (by omega)]
    simp
  rw [e1]
  unfold stepC
  rw [if_neg (by omega), if_pos rfl]
theorem ascii_two {c : Nat} (h : 128 ≤ c) (h2 : c ≤ 1114111) : ((charZ (c : Int) = true ∧ ∃ t : ByteArray, asciiW [97, c] = .ok t ∧ 5 < t.size ∧ (t.extract 0 4).toList = [120, 110, 45, 45]) ∨ (charZ (c : Int) = false ∧ ∃ k i, asciiW [97, c] = .error (k, i))) := by
  have hs : smallZ (c : Int) = false := decide_eq_false (by omega)
  have hm : mayB c = charZ (c : Int) := by unfold mayB; rw [hs]; rfl
  have h97 : mayB 97 = true := by decide
  cases hc : charZ (c : Int) with
  | true =>
    left
    rw [hc] at hm
    have hb : badC [97, c] 0 = none := by rw [badC_next h97, badC_next hm]; rfl
    have hmk : marksL [97, c] = true := marks_yes (by simp) (by simp) (by simp; omega) (.inl (by simp))
    have hl := numD_len (n := (c - 128) * 2 + 1) (b := 72) (by omega)
    have he := encN_two h
    have hlen : (encN [97, c]).length = 2 + (numD ((c - 128) * 2 + 1) 72).length := by rw [he]; simp; omega
    refine ⟨rfl, _, asciiW_ok hb hmk (by simp; omega), ?_, ?_⟩
    · show 5 < (xnL ++ encN [97, c]).toArray.size
      simp [xnL]
      omega
    · rw [ByteArray.toList_eq]
      simp [xnL]
  | false =>
    right
    rw [hc] at hm
    exact ⟨rfl, 11, _, asciiW_bad (by rw [badC_next h97, badC_hit hm])⟩
theorem lowerB_high {b : UInt8} (h : 128 ≤ b.toNat) : lowerB b = b := by
  apply UInt8.toNat_inj.1
  rw [lowerB_nat]
  unfold smallN
  split <;> omega
theorem putL_high {c : Nat} (h : 128 ≤ c) (h2 : c ≤ 1114111) : ∀ b ∈ putL c, 128 ≤ b.toNat := by
  intro b hb
  unfold putL at hb
  obtain ⟨n, hn, rfl⟩ := List.mem_map.1 hb
  unfold putN at hn
  split at hn
  · omega
  · split at hn
    · simp at hn
      rcases hn with rfl | rfl
      · rw [UInt8.toNat_ofNat_of_lt' (by have : 192 + c / 64 < 256 := by omega
                                         exact this)]; omega
      · rw [UInt8.toNat_ofNat_of_lt' (by have : 128 + c % 64 < 256 := by omega
                                         exact this)]; omega
    · split at hn
      · simp at hn
        rcases hn with rfl | rfl | rfl
        · rw [UInt8.toNat_ofNat_of_lt' (by have : 224 + c / 4096 < 256 := by omega
                                           exact this)]; omega
        · rw [UInt8.toNat_ofNat_of_lt' (by have : 128 + c / 64 % 64 < 256 := by omega
                                           exact this)]; omega
        · rw [UInt8.toNat_ofNat_of_lt' (by have : 128 + c % 64 < 256 := by omega
                                           exact this)]; omega
      · simp at hn
        rcases hn with rfl | rfl | rfl | rfl
        · rw [UInt8.toNat_ofNat_of_lt' (by have : 240 + c / 262144 < 256 := by omega
                                           exact this)]; omega
        · rw [UInt8.toNat_ofNat_of_lt' (by have : 128 + c / 4096 % 64 < 256 := by omega
                                           exact this)]; omega
        · rw [UInt8.toNat_ofNat_of_lt' (by have : 128 + c / 64 % 64 < 256 := by omega
                                           exact this)]; omega
        · rw [UInt8.toNat_ofNat_of_lt' (by have : 128 + c % 64 < 256 := by omega
                                           exact this)]; omega
theorem ascii_char {c : Nat} (h : 128 ≤ c) (hr : rightB (c : Int) = true) (h2 : c ≤ 1114111) : asciiL ⟨(97 :: putL c).toArray⟩ = asciiW [97, c] := by
  have hrc := (rightC_iff c).2 hr
  have hput : putAll [97, c] = 97 :: putL c := by
    show putL 97 ++ (putL c ++ []) = _
    rw [List.append_nil]
    rfl
  have hch : chrs ⟨(97 :: putL c).toArray⟩ = ([97, c], none) := by
    rw [← hput]
    exact chrs_put [97, c] fun x hx => by
      simp at hx
      rcases hx with rfl | rfl
      · exact .inl (by omega)
      · exact hrc
  have hlow : lowerS ⟨(97 :: putL c).toArray⟩ = ⟨(97 :: putL c).toArray⟩ := by
    have e0 : lowerS ⟨(97 :: putL c).toArray⟩ = ⟨((97 :: putL c).map lowerB).toArray⟩ := rfl
    have e1 : (putL c).map lowerB = putL c := by
      have := List.map_congr_left (l := putL c) (f := lowerB) (g := id) fun b hb => lowerB_high (putL_high h h2 b hb)
      rw [this, List.map_id]
    have e2 : lowerB 97 = 97 := by decide
    rw [e0, List.map_cons, e1, e2]
  rw [asciiL_wide (by rw [hch]) (by rw [hch]; unfold wideL; simp [h]), hlow, lowC_ok (by rw [hch]), hch]
end Go.Proofs.YtbonnmkkacplgaaGreatDoor

/- The reference's Char of chapter 10. -/
namespace Go.Proofs.YtbonnmkkacplgaaGreatDoor
open Go.RowKit

set_option maxHeartbeats 6400000 in
set_option maxRecDepth 100000 in
theorem ref10_Char (c : Int) (w : World) (h1 : -9223372036854775808 ≤ c) (h2 : c ≤ 9223372036854775807) :
    Calls Tryz.prog 17 #[.int .i64 c] w fun e w' => e = .returned (.bool (charZ c)) ∧ w = w' := by
  by_cases d0 : ¬ c ≥ 223
  · have f0 : ¬ c ≥ 12293 := by omega
    have f1 : ¬ c ≥ 63744 := by omega
    have f2 : ¬ c ≥ 65536 := by omega
    have HV := Lib.hid (show charZ c = false from decide_eq_false (by unfold inSpan; omega))
    go_enter Tryz.func17, Tryz.ntmps17
    go_wp2_with fail
    go_ret
    exact ⟨ret_bool HV.out.symm, rfl⟩
  by_cases d1 : c ≤ 12287
  · by_cases e0 : c = 247
    · have f0 : (c != 247) = false := by rw [bne_eq_false_iff_eq]; omega
      have HV := Lib.hid (show charZ c = false from decide_eq_false (by unfold inSpan; omega))
      clear e0
      go_enter Tryz.func17, Tryz.ntmps17
      go_wp2_with fail
      go_ret
      exact ⟨ret_bool HV.out.symm, rfl⟩
    by_cases e1 : c < 8192
    · have f0 : (c != 247) = true := by rw [bne_iff_ne]; omega
      have HV := Lib.hid (show charZ c = true from decide_eq_true (by unfold inSpan; omega))
      go_enter Tryz.func17, Tryz.ntmps17
      go_wp2_with fail
      go_ret
      exact ⟨ret_bool HV.out.symm, rfl⟩
    by_cases e2 : c > 11263
    · have f0 : (c != 247) = true := by rw [bne_iff_ne]; omega
      have HV := Lib.hid (show charZ c = true from decide_eq_true (by unfold inSpan; omega))
      go_enter Tryz.func17, Tryz.ntmps17
      go_wp2_with fail
      go_ret
      exact ⟨ret_bool HV.out.symm, rfl⟩
    have f0 : (c != 247) = true := by rw [bne_iff_ne]; omega
    have HV := Lib.hid (show charZ c = false from decide_eq_false (by unfold inSpan; omega))
    go_enter Tryz.func17, Tryz.ntmps17
    go_wp2_with fail
    go_ret
    exact ⟨ret_bool HV.out.symm, rfl⟩
  by_cases d2 : ¬ c ≥ 12293
  · have f0 : ¬ c ≥ 63744 := by omega
    have f1 : ¬ c ≥ 65536 := by omega
    have HV := Lib.hid (show charZ c = false from decide_eq_false (by unfold inSpan; omega))
    go_enter Tryz.func17, Tryz.ntmps17
    go_wp2_with fail
    go_ret
    exact ⟨ret_bool HV.out.symm, rfl⟩
  by_cases d3 : c ≤ 55295
  · have HV := Lib.hid (show charZ c = true from decide_eq_true (by unfold inSpan; omega))
    go_enter Tryz.func17, Tryz.ntmps17
    go_wp2_with fail
    go_ret
    exact ⟨ret_bool HV.out.symm, rfl⟩
  by_cases d4 : ¬ c ≥ 63744
  · have f0 : ¬ c ≥ 65536 := by omega
    have HV := Lib.hid (show charZ c = false from decide_eq_false (by unfold inSpan; omega))
    go_enter Tryz.func17, Tryz.ntmps17
    go_wp2_with fail
    go_ret
    exact ⟨ret_bool HV.out.symm, rfl⟩
  by_cases d5 : c ≤ 65023
  · by_cases e0 : c < 64976
    · have HV := Lib.hid (show charZ c = true from decide_eq_true (by unfold inSpan; omega))
      go_enter Tryz.func17, Tryz.ntmps17
      go_wp2_with fail
      go_ret
      exact ⟨ret_bool HV.out.symm, rfl⟩
    by_cases e1 : c > 65007
    · have HV := Lib.hid (show charZ c = true from decide_eq_true (by unfold inSpan; omega))
      go_enter Tryz.func17, Tryz.ntmps17
      go_wp2_with fail
      go_ret
      exact ⟨ret_bool HV.out.symm, rfl⟩
    have HV := Lib.hid (show charZ c = false from decide_eq_false (by unfold inSpan; omega))
    go_enter Tryz.func17, Tryz.ntmps17
    go_wp2_with fail
    go_ret
    exact ⟨ret_bool HV.out.symm, rfl⟩
  by_cases d6 : ¬ c ≥ 65536
  · have HV := Lib.hid (show charZ c = false from decide_eq_false (by unfold inSpan; omega))
    go_enter Tryz.func17, Tryz.ntmps17
    go_wp2_with fail
    go_ret
    exact ⟨ret_bool HV.out.symm, rfl⟩
  by_cases d7 : ¬ c ≤ 262143
  · have HV := Lib.hid (show charZ c = false from decide_eq_false (by unfold inSpan; omega))
    go_enter Tryz.func17, Tryz.ntmps17
    go_wp2_with fail
    go_ret
    exact ⟨ret_bool HV.out.symm, rfl⟩
  by_cases e0 : c % 65536 = 65534
  · have f0 : (c % 65536 != 65534) = false := by rw [bne_eq_false_iff_eq]; omega
    have HV := Lib.hid (show charZ c = false from decide_eq_false (by unfold inSpan; omega))
    clear e0
    go_enter Tryz.func17, Tryz.ntmps17
    go_wp2_with fail
    go_ret
    exact ⟨ret_bool HV.out.symm, rfl⟩
  by_cases e1 : c % 65536 = 65535
  · have f0 : (c % 65536 != 65534) = true := by rw [bne_iff_ne]; omega
    have f1 : (c % 65536 != 65535) = false := by rw [bne_eq_false_iff_eq]; omega
    have HV := Lib.hid (show charZ c = false from decide_eq_false (by unfold inSpan; omega))
    clear e1
    go_enter Tryz.func17, Tryz.ntmps17
    go_wp2_with fail
    go_ret
    exact ⟨ret_bool HV.out.symm, rfl⟩
  have f0 : (c % 65536 != 65534) = true := by rw [bne_iff_ne]; omega
  have f1 : (c % 65536 != 65535) = true := by rw [bne_iff_ne]; omega
  have HV := Lib.hid (show charZ c = true from decide_eq_true (by unfold inSpan; omega))
  go_enter Tryz.func17, Tryz.ntmps17
  go_wp2_with fail
  go_ret
  exact ⟨ret_bool HV.out.symm, rfl⟩
end Go.Proofs.YtbonnmkkacplgaaGreatDoor

/- The reference's Next of chapter 01. -/
namespace Go.Proofs.YtbonnmkkacplgaaGreatDoor
open Go.RowKit

theorem bytes_cut (w : World) (b off i k cap : Nat) (s : ByteArray) (hi : i + k ≤ s.size) (hp : BytesIn w b off s) :
    (convert 32 9 (.slice (some ⟨b, off + i, none⟩) k cap)).run Tryz.prog w = .ok (.string (s.extract i (i + k))) w := by
  have hl : s.data.toList.length = s.size := rfl
  have h := run_convert_bytes_back (P := Tryz.prog) w 32 9 5 ⟨b, off + i, none⟩ cap ((s.data.toList.drop i).take k) Tryz.underlying32 Tryz.underlying5 Tryz.underlying9 (fun j hj => by
    have hj' : j < k := by simp [hl] at hj; omega
    have := hp (i + j) (by omega)
    rw [Addr.add_lit, Nat.add_assoc, this]
    have hlt : i + j < s.data.toList.length := by omega
    simp only [byteAt, List.getD, List.getElem_take, List.getElem_drop]
    rw [List.getElem?_eq_getElem hlt]; rfl)
  have hlen : ((s.data.toList.drop i).take k).length = k := by simp [hl]; omega
  rw [hlen] at h
  rw [h, Lib.extract_eq, Nat.add_sub_cancel_left]

def SNext (b off : Nat) (s : ByteArray) (W : World) : Prop := BytesIn W b off s

theorem SNext.put {b off : Nat} {s : ByteArray} {W w2 : World} (h : SNext b off s W) (hb : b < W.heap.size) (h2 : Below W.drew.heap.size W.drew w2) : SNext b off s w2 :=
  BytesIn.below (B := W.heap.size) (w := W) h (((Below.refl W.heap.size W).drew).trans h2) hb

set_option maxHeartbeats 3200000 in
set_option maxRecDepth 100000 in
theorem ref_Next (s : ByteArray) (i b off cap : Nat) (w : World) (hi : i < s.size) (hs : s.size ≤ 16777216) (hc : s.size ≤ cap) (hcap : cap ≤ 9223372036854775807) (hbs : b < w.heap.size) (hp : BytesIn w b off s) :
    Calls Tryz.prog 69 #[.slice (some ⟨b, off, none⟩) s.size cap, .int .i64 (i : Int)] w fun e w' => e = .returned (.tuple #[.int .i64 (refC s i : Int), .int .i64 (refN s i : Int)]) ∧ Below w.heap.size w w' := by
  go_enter Tryz.func69, Tryz.ntmps69
  go_wp2_with fail
  go_loopw [6] (fun k wr => ∃ j : Nat, 1 ≤ j ∧ j ≤ 5 ∧ k = .int .i64 j ∧ (∀ m, 1 ≤ m → m < j → i + m ≤ s.size → ¬ hitB s i m) ∧ Below w.heap.size w wr)
    (fun k _ => 6 - (intOf k).toNat)
  case atStart => exact ⟨1, by omega, by omega, rfl, fun m _ _ => by omega, Below.refl _ _⟩
  case round =>
    obtain ⟨k, hk1, hk5, rfl, hall, hbr⟩ := hrel
    have HA := Lib.hid hall
    clear hall
    by_cases hk4 : k ≤ 4 ∧ i + k ≤ s.size
    · obtain ⟨hk4, hik⟩ := hk4
      have hcx := bytes_cut wr b off i k (cap - i) s hik (hp.below hbr hbs)
      have t1 : (k : Int) ≤ 4 := by omega
      have t2 : (i : Int) + (k : Int) ≤ (s.size : Int) := by omega
      go_wp2_with fail
      refine (ref_guess s i k b off cap _ hk1 hk4 hik (by omega) (hp.below hbr hbs)).mono ?_
      rintro e w2 ⟨rfl, rfl⟩
      generalize hg : guessB s i k = g at *
      have HG := Lib.hid hg
      clear hg
      by_cases hr : rightB g = true
      · have cR : ∀ W : World, Calls Tryz.prog 18 #[.int .i64 g] W fun e w' => e = .returned (.bool true) ∧ W = w' := fun W => (ref_Right g W).mono fun _ _ ⟨a, b⟩ => ⟨by rw [a, hr], b⟩
        have CR := Lib.hid cR
        clear cR
        have hrz := (rightB_iff g).1 hr
        unfold rightZ at hrz
        obtain ⟨hz0, hz1, _⟩ := hrz
        obtain ⟨n, rfl⟩ := Int.eq_ofNat_of_zero_le hz0
        have cP : ∀ W : World, Calls Tryz.prog 19 #[.int .i64 (n : Int)] W fun e w' =>
            ∃ g, e = .returned (.slice (some ⟨g, 0, none⟩) (putL n).length (putL n).length) ∧ Below W.heap.size W w' ∧ (convert 32 9 (.slice (some ⟨g, 0, none⟩) (putL n).length (putL n).length)).run Tryz.prog w' = .ok (.string ⟨(putL n).toArray⟩) w' :=
          fun W => (ref_Put n (by omega) W).mono fun e w' ⟨h1, h2, h3, _⟩ => ⟨_, h1, h2, run_back w' _ _ 5 _ _ _ Tryz.underlying32 Tryz.underlying5 Tryz.underlying9 h3⟩
        have CP := Lib.hid cP
        clear cP
        have HC : ∀ W : World, BytesIn W b off s → (convert 32 9 (.slice (some ⟨b, off + i, none⟩) k (cap - i))).run Tryz.prog W = .ok (.string (s.extract i (i + k))) W := fun W hW => bytes_cut W b off i k (cap - i) s hik hW
        have HD := Lib.hid HC
        clear HC
        have hpr := hp.below hbr hbs
        have hbsr : b < wr.heap.size := Nat.lt_of_lt_of_le hbs hbr.size
        go_upto_region 5 with (fail)
        generalize hps : (⟨(putL n).toArray⟩ : ByteArray) = ps at *
        generalize hxs : s.extract i (i + k) = xs at *
        generalize (putL n).length = ln at *
        have HP := Lib.hid (And.intro hps hxs)
        clear hps hxs
        have z1 : IntKind.i64.wrap ((i : Int) + (k : Int)) = (i : Int) + (k : Int) := IntWalk.i64_in _ (by omega)
        have z2 : (0 : Int) ≤ (i : Int) + (k : Int) := by omega
        have z3 : ((i : Int) + (k : Int)).toNat = i + k := by omega
        have z4 : i + k - i = k := by omega
        have z5 : (0 : Int) ≤ (i : Int) := by omega
        have z6 : (i : Int) ≤ (i : Int) + (k : Int) := by omega
        have z7 : (i : Int) + (k : Int) ≤ (cap : Int) := by omega
        have z8 : ¬ cap = i := by omega
        go_cut [38] (fun c wx => c = .bool (ps.toList == xs.toList) ∧ Below wr.heap.size wr wx)
        case first =>
          have hS0 : SNext b off s wr := hpr
          have hS1 : SNext b off s wr.drew := hpr
          have hcd := HD.out wr.drew hpr
          go_region_held (SNext b off s) (first | exact hp2 | exact hS1)
            (first
            | (go_at_call 18; refine (CR.out _).mono ?_; rintro e w' ⟨rfl, rfl⟩)
            | (go_at_call 19; refine (CP.out _).mono ?_; rintro e w2 ⟨g, rfl, hb2, hB2⟩; have hp2 := hS0.put hbsr hb2; have hc2 := HD.out w2 hp2; have hbw2 := ((Below.refl wr.heap.size wr).drew).trans hb2; clear hb2; dsimp only))
          all_goals clear z1 z2 z3 z4 z5 z6 z7 z8
          all_goals (go_wp2_with fail; go_meet; exact ⟨rfl, hbw2⟩)
        case rest =>
          obtain ⟨rfl, hbx⟩ := hcut
          have hbx := Bt hbr hbx
          clear z1 z2 z3 z4 z5 z6 z7 z8 CP CR HD hcx hpr hbsr
          by_cases hh : ps = xs
          · have hl : (ps.toList == xs.toList) = true := by rw [hh]; exact beq_self_eq_true _
            have hd := hitB_dec (s := s) (i := i) hk1 hk4 hik ⟨by rw [HG.out]; exact hr, by rw [HG.out, Int.toNat_natCast, HP.out.1, HP.out.2, hh]⟩
            rw [HG.out, Int.toNat_natCast] at hd
            have HD := Lib.hid (ref_yes hd)
            clear hd hr
            rw [hl]
            clear hl hh HP HG hp hbs t1 t2 HA
            go_wp2_with fail
            go_ret2
            exact ⟨ret_next HD.out, hbx⟩
          · have hl : (ps.toList == xs.toList) = false := by
              rw [beq_eq_false_iff_ne]
              intro e
              rw [ByteArray.toList_eq, ByteArray.toList_eq] at e
              exact hh (ByteArray.ext (Array.ext' e))
            have hno : ¬ hitB s i k := fun ⟨_, e⟩ => hh (by rw [HG.out, Int.toNat_natCast, HP.out.1, HP.out.2] at e; exact e)
            have hall : ∀ m, 1 ≤ m → m < k + 1 → i + m ≤ s.size → ¬ hitB s i m := fun m h1 h2 h3 => by
              by_cases hmk : m = k
              · rw [hmk]; exact hno
              · exact HA.out m h1 (by omega) h3
            have HALL := Lib.hid hall
            clear hall hno hr hh
            rw [hl]
            clear hl
            go_wp2_with fail
            go_roundw
            case rel => exact ⟨k + 1, by omega, by omega, by go_num, HALL.out, hbx⟩
            case measure => simp [intOf]; omega
      · have hr : rightB g = false := by simpa using hr
        have cR : ∀ W : World, Calls Tryz.prog 18 #[.int .i64 g] W fun e w' => e = .returned (.bool false) ∧ W = w' := fun W => (ref_Right g W).mono fun _ _ ⟨a, b⟩ => ⟨by rw [a, hr], b⟩
        have hno : ¬ hitB s i k := fun ⟨e, _⟩ => by rw [HG.out, hr] at e; cases e
        have hall : ∀ m, 1 ≤ m → m < k + 1 → i + m ≤ s.size → ¬ hitB s i m := fun m h1 h2 h3 => by
          by_cases hmk : m = k
          · rw [hmk]; exact hno
          · exact HA.out m h1 (by omega) h3
        have HALL := Lib.hid hall
        have CR := Lib.hid cR
        clear hall hno hr cR hcx
        go_upto_region 5 with (fail)
        go_cut [38] (fun c wx => c = .bool false ∧ Below wr.heap.size wr wx)
        case first =>
          go_quiet ((go_at_call 18; exact Calls.quiet_of_same ((CR.out _).mono fun _ _ ⟨a, b⟩ => ⟨a, b.symm⟩)))
          go_wp2_with fail
          go_meet
          exact ⟨rfl, below_drewN (Below.refl _ _) _⟩
        case rest =>
          obtain ⟨rfl, hbx⟩ := hcut
          have hbx := Bt hbr hbx
          go_wp2_with fail
          go_roundw
          case rel => exact ⟨k + 1, by omega, by omega, by go_num, HALL.out, hbx⟩
          case measure => simp [intOf]; omega
    · have hno : okB s i = false := no_hit hi fun m h1 h2 h3 => HA.out m h1 (by omega) h3
      have HN := Lib.hid (ref_no hno)
      clear hno
      have hk' : 5 ≤ k ∨ (k ≤ 4 ∧ s.size < i + k) := by omega
      clear hk4
      rcases hk' with h | ⟨h, h'⟩
      all_goals
        go_wp2_with fail
        go_ret2
        exact ⟨ret_next0 HN.out, hbr⟩
end Go.Proofs.YtbonnmkkacplgaaGreatDoor
