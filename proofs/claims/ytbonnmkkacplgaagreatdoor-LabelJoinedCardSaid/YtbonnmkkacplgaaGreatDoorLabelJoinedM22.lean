/- label.Labels, label.Beneath; the walk of LabelParts. -/
import Derived.Test.YtbonnmkkacplgaaGreatDoorLabelJoinedM21
import Derived.Test.YtbonnmkkacplgaaGreatDoorLabelJoinedM17
import Derived.Test.YtbonnmkkacplgaaGreatDoorLabelJoinedM18

namespace Go.Proofs.YtbonnmkkacplgaaGreatDoor
open Go.RowKit

theorem label_Labels (s : ByteArray) (w : World) (hs : s.size ≤ 16777216) : Calls Tryz.prog 25 #[.string s] w fun e w' =>
    ∃ a, e = .returned (.slice a (partsB 46 s).length (partsB 46 s).length) ∧ RowSl w' a ((partsB 46 s).map strV) ∧ Below w.heap.size w w' := by
  have cS := Lib.hid (fun W => strings_Split1 s 46 W hs)
  have hcells := fun W => parts_cells W (partsB 46 s)
  generalize partsB 46 s = ps at *
  have HC := Lib.hid hcells
  clear hcells
  go_enter Tryz.func25, Tryz.ntmps25
  go_wp2_with fail
  refine (cS.out _).mono ?_
  rintro e w1 ⟨rfl, rfl⟩
  have hb : Below w.heap.size w (w.alloc (.cells (ps.map Value.string).toArray 9)) := (Below.refl _ _).alloc (Nat.le_refl _) _
  have hr : RowSl (w.alloc (.cells (ps.map Value.string).toArray 9)) (some ⟨w.heap.size, 0, none⟩) (ps.map strV) := by
    intro i v h
    rw [List.getElem?_map] at h
    cases hp : ps[i]? with
    | none => rw [hp] at h; cases h
    | some p =>
      rw [hp] at h
      obtain rfl := Option.some.inj h
      have hc := HC.out w i p hp
      exact ⟨_, rfl, World.block_lt_of_cell? _ _ hc, hc⟩
  have HR := Lib.hid hr
  have HB := Lib.hid hb
  clear hr hb
  go_wp2_with fail
  go_ret
  exact ⟨_, rfl, HR.out, HB.out⟩
/-- Is a name beneath another? -/
def beneathB (n a : ByteArray) : Bool := decide (a.size + 1 < n.size) && Lib.hasSuffix n.data.toList (46 :: a.data.toList)
theorem beneath_no {n a : ByteArray} (h : ¬ a.size + 1 < n.size) : beneathB n a = false := by unfold beneathB; rw [decide_eq_false h, Bool.false_and]
theorem beneath_yes {n a : ByteArray} (h : a.size + 1 < n.size) : beneathB n a = Lib.hasSuffix n.data.toList (46 :: a.data.toList) := by unfold beneathB; rw [decide_eq_true h, Bool.true_and]
theorem dot_app (a : ByteArray) : ((⟨#[46]⟩ : ByteArray) ++ a).data.toList = 46 :: a.data.toList := by rw [data_append]; rfl
theorem beneath_cut {n a : ByteArray} (k : Nat) (h : n.size = a.size + 1 + k) : ((n.extract k n.size).toList == ((⟨#[46]⟩ : ByteArray) ++ a).toList) = Lib.hasSuffix n.data.toList (46 :: a.data.toList) := by
  have hn : n.data.toList.length = n.size := rfl
  have ha : a.data.toList.length = a.size := rfl
  rw [ByteArray.toList_eq, ByteArray.toList_eq, dot_app]
  have e : (n.extract k n.size).data.toList = n.data.toList.drop k := by
    rw [ByteArray.data_extract]
    simp
    exact List.take_of_length_le (by simp)
  rw [e]
  unfold Lib.hasSuffix
  by_cases hs : (46 :: a.data.toList) <:+ n.data.toList
  · rw [List.isSuffixOf_iff_suffix.2 hs]
    have := List.suffix_iff_eq_drop.1 hs
    have hk : n.data.toList.length - (46 :: a.data.toList).length = k := by rw [List.length_cons]; omega
    rw [hk] at this
    rw [beq_iff_eq]
    exact this.symm
  · have e1 : (46 :: a.data.toList).isSuffixOf n.data.toList = false := by
      cases h2 : (46 :: a.data.toList).isSuffixOf n.data.toList with
      | false => rfl
      | true => exact absurd (List.isSuffixOf_iff_suffix.1 h2) hs
    rw [e1, beq_eq_false_iff_ne]
    intro h2
    exact hs (by rw [← h2]; exact List.drop_suffix _ _)
set_option maxHeartbeats 1600000 in
theorem label_Beneath (n a : ByteArray) (w : World) (hn : n.size ≤ 2000) (ha : a.size ≤ 2000) : Calls Tryz.prog 26 #[.string n, .string a] w fun e w' => e = .returned (.bool (beneathB n a)) ∧ w = w' := by
  by_cases h : a.size + 1 < n.size
  · have hI : (n.size : Int) > (a.size : Int) + 1 := by omega
    have HV := Lib.hid (beneath_yes h)
    have c1 := Lib.hid (fun W => Tryz.strings_HasSuffix n ((⟨#[46]⟩ : ByteArray) ++ a) W (by omega))
    rw [dot_app] at c1
    clear h
    go_enter Tryz.func26, Tryz.ntmps26
    go_wp2_with fail
    refine (c1.out _).mono ?_
    rintro e w1 ⟨rfl, hw⟩
    obtain rfl := hw.symm
    go_wp2_with fail
    go_ret
    exact ⟨ret_bool HV.out.symm, rfl⟩
  · have hI : ¬ (n.size : Int) > (a.size : Int) + 1 := by omega
    have HV := Lib.hid (beneath_no h)
    clear h
    go_enter Tryz.func26, Tryz.ntmps26
    go_wp2_with fail
    go_ret
    exact ⟨ret_bool HV.out.symm, rfl⟩
set_option maxHeartbeats 1600000 in
theorem ref10_Beneath (n a : ByteArray) (w : World) (hn : n.size ≤ 2000) (ha : a.size ≤ 2000) : Calls Tryz.prog 27 #[.string n, .string a] w fun e w' => e = .returned (.bool (beneathB n a)) ∧ w = w' := by
  by_cases h : a.size + 1 < n.size
  · obtain ⟨k, hk⟩ : ∃ k, n.size = a.size + 1 + k := ⟨n.size - a.size - 1, by omega⟩
    have hI : (n.size : Int) - (a.size : Int) - 1 = (k : Int) := by omega
    have hk0 : (k : Int) > 0 := by omega
    have hk1 : (k : Int) ≤ (n.size : Int) := by omega
    have HV := Lib.hid ((beneath_yes h).trans (beneath_cut k hk).symm)
    clear h hk
    go_enter Tryz.func27, Tryz.ntmps27
    go_wp2_with fail
    go_ret
    exact ⟨ret_bool HV.out.symm, rfl⟩
  · have hI : ¬ (n.size : Int) - (a.size : Int) - 1 > 0 := by omega
    have HV := Lib.hid (beneath_no h)
    clear h
    go_enter Tryz.func27, Tryz.ntmps27
    go_wp2_with fail
    go_ret
    exact ⟨ret_bool HV.out.symm, rfl⟩
theorem x_app (s : ByteArray) : beneathB ((⟨#[120, 46]⟩ : ByteArray) ++ s) s = true := by
  have e : ((⟨#[120, 46]⟩ : ByteArray) ++ s).data.toList = 120 :: 46 :: s.data.toList := by rw [data_append]; rfl
  have hz : ((⟨#[120, 46]⟩ : ByteArray) ++ s).size = s.size + 2 := by
    have h1 : ((⟨#[120, 46]⟩ : ByteArray) ++ s).data.toList.length = ((⟨#[120, 46]⟩ : ByteArray) ++ s).size := rfl
    have h2 : s.data.toList.length = s.size := rfl
    rw [← h1, e, List.length_cons, List.length_cons, h2]
  rw [beneath_yes (by omega), e]
  exact List.isSuffixOf_iff_suffix.2 ⟨[120], rfl⟩
theorem fields_parts (s : ByteArray) (w : World) (hs : s.size ≤ 1000) : Calls Tryz.prog 23 #[.string s, .int .u8 46, .int .i64 2000] w fun e w' =>
    ∃ a c, e = .returned (.tuple #[.slice a (partsB 46 s).length c, .int .i64 0, .int .i64 0]) ∧ RowSl w' a ((partsB 46 s).map strV) ∧ Below w.heap.size w w' :=
  (ref_Fields s 46 2000 w (by omega) (by decide) (by decide)).mono fun e w' ⟨hb, h⟩ => by
    rcases h with ⟨v, he, _, ho⟩ | ⟨i, _, hi, _, hl⟩
    · have hf := fields_split s 46
      have hp : partsB 46 s = (splitL 46 s.data.toList).map ofL := rfl
      rw [← hp] at hf
      rw [hf] at ho
      have hlen : (cutAt s 46 s.size).1.length + 1 = ((partsB 46 s).map strV).length := by rw [List.length_map, ← hf]; simp
      obtain ⟨a, c, rfl, _, _, hr⟩ := row_sl ho hlen
      rw [List.length_map] at he
      exact ⟨a, c, he, hr, hb⟩
    · have := (cutAt_le s 46 (i + 1)).1
      omega
theorem parts_le (s : ByteArray) : (partsB 46 s).length ≤ s.size + 1 := by
  unfold partsB
  rw [List.length_map]
  have := splitL_len 46 s.data.toList.length s.data.toList (Nat.le_refl _)
  have h : s.data.toList.length = s.size := rfl
  omega
set_option maxHeartbeats 1600000 in
set_option maxRecDepth 100000 in
theorem walkLabelParts (s a : ByteArray) (w : World) (hH : Handle w) (hU : Utf8Laid w) (hS : SpanLaid w) (hs : s.size ≤ maxLen) (ha : a.size ≤ maxLen) :
    Calls Tryz.prog 7 #[.string s, .string a] w fun e w' => e = .returned (.bool true) ∧ Below w.heap.size w w' := by
  unfold maxLen at hs ha
  have c1 := Lib.hid (fun W h1 h2 h3 => speaks10 W h1 h2 h3)
  by_cases h1 : 1000 < s.size
  · have hI : (s.size : Int) > 1000 := by omega
    go_enter Tryz.func7, Tryz.ntmps7
    go_wp2_with fail
    refine (c1.out _ hH hS hU).mono ?_
    rintro e w1 ⟨rfl, hb1⟩
    go_wp2_with fail
    go_ret
    exact ⟨rfl, hb1⟩
  have hI : ¬ (s.size : Int) > 1000 := by omega
  by_cases h2 : 1000 < a.size
  · have hJ : (a.size : Int) > 1000 := by omega
    go_enter Tryz.func7, Tryz.ntmps7
    go_wp2_with fail
    refine (c1.out _ hH hS hU).mono ?_
    rintro e w1 ⟨rfl, hb1⟩
    go_wp2_with fail
    go_ret
    exact ⟨rfl, hb1⟩
  have hJ : ¬ (a.size : Int) > 1000 := by omega
  have hpl := parts_le s
  have c2 := Lib.hid (fun W => fields_parts s W (by omega))
  have c3 := Lib.hid (fun W => label_Labels s W (by omega))
  have c4 := Lib.hid (fun W => label_Beneath s a W (by omega) (by omega))
  have c5 := Lib.hid (fun W => ref10_Beneath s a W (by omega) (by omega))
  have hx := x_app s
  have hxz : ((⟨#[120, 46]⟩ : ByteArray) ++ s).size ≤ 2000 := by
    rw [ByteArray.size_append]
    show 2 + s.size ≤ 2000
    omega
  have c6 := Lib.hid (fun W => label_Beneath ((⟨#[120, 46]⟩ : ByteArray) ++ s) s W hxz (by omega))
  rw [hx] at c6
  have c7 := Lib.hid (fun W => label_Beneath s s W (by omega) (by omega))
  rw [beneath_no (by omega)] at c7
  generalize beneathB s a = r at *
  have er : (r == r) = true := by cases r <;> rfl
  clear h1 h2 hx hxz
  generalize partsB 46 s = ps at *
  go_enter Tryz.func7, Tryz.ntmps7
  go_wp2_with fail
  refine (c1.out _ hH hS hU).mono ?_
  rintro e w1 ⟨rfl, hb⟩
  clear hH hS hU
  go_wp2_with fail
  refine (c2.out _).mono ?_
  rintro e w2 ⟨pa, ca, rfl, hr2, hb2⟩
  have hb := Bt hb hb2
  clear hb2
  have HR2 := Lib.hid hr2
  clear hr2
  go_wp2_with fail
  refine (c3.out _).mono ?_
  rintro e w3 ⟨pb, rfl, hr3, hb3⟩
  have hb := Bt hb hb3
  have cS := Lib.hid (ref_SameR pb pa ps.length ca ps ps w3 hr3 (HR2.out.below hb3) (by omega) (by omega))
  rw [decide_eq_true rfl] at cS
  clear hr3 hb3
  go_wp2_with fail
  refine cS.out.mono ?_
  rintro e w4 ⟨rfl, m, hm⟩
  have hb : Below w.heap.size w w4 := by rw [← hm]; exact below_drewN hb _
  clear hm cS
  go_wp2_with fail
  refine (c4.out _).mono ?_
  rintro e w5 ⟨rfl, hw⟩
  obtain rfl := hw
  go_wp2_with fail
  refine (c5.out _).mono ?_
  rintro e w5 ⟨rfl, hw⟩
  obtain rfl := hw
  go_wp2_with fail
  refine (c6.out _).mono ?_
  rintro e w5 ⟨rfl, hw⟩
  obtain rfl := hw
  go_wp2_with fail
  refine (c7.out _).mono ?_
  rintro e w5 ⟨rfl, hw⟩
  obtain rfl := hw
  go_wp2_with fail
  go_ret
  exact ⟨rfl, hb⟩
end Go.Proofs.YtbonnmkkacplgaaGreatDoor

/- A label of a letter and a character, in plain words. -/
namespace Go.Proofs.YtbonnmkkacplgaaGreatDoor
open Go.RowKit

theorem markL_two {c : Nat} (h : 128 ≤ c) : markL [97, c] = [c] := by
  apply up_unique
  · exact markL_up _
  · simp
  · intro x
    rw [markL_mem]
    simp
    constructor
    · rintro ⟨rfl | rfl, h2⟩
      · omega
      · rfl
    · rintro rfl
      exact ⟨.inr rfl, h⟩
theorem encN_two {c : Nat} (h : 128 ≤ c) : encN [97, c] = [97, 45] ++ numD ((c - 128) * 2 + 1) 72 := by
  have hb : basicL [97, c] = [97] := by
    unfold basicL
    have : ([97, c] : List Nat).filter (fun c => decide (c < 128)) = [97] := by
      rw [List.filter_cons_of_pos (by decide), List.filter_cons_of_neg (by simp; omega)]
      rfl
    rw [this]
    rfl
  have ho : basicO [97, c] = [97, 45] := by unfold basicO; rw [hb]; rfl
  unfold encN
  rw [markL_two h, hb, ho]
  show (nextC (roundC [97, c] 1 c 128 ⟨0, 72, 1, [97, 45]⟩)).out = _
  unfold nextC roundC
  simp only [List.foldl_cons, List.foldl_nil]
  have e1 : stepC c 1 ⟨0 + (c - 128) * (1 + 1), 72, 1, [97, 45]⟩ 97 = ⟨(c - 128) * 2 + 1, 72, 1, [97, 45]⟩ := by
    unfold stepC
    rw [if_pos (by omega)]
    simp
  rw [e1]
  unfold stepC
  rw [if_neg (by omega), if_pos rfl]
theorem ascii_two {c : Nat} (h : 128 ≤ c) (h2 : c ≤ 1114111) : ((charZ (c : Int) = true ∧ ∃ t : ByteArray, asciiW [97, c] = .ok t ∧ 5 < t.size ∧ (t.extract 0 4).toList = [120, 110, 45, 45]) ∨ (charZ (c : Int) = false ∧ ∃ k i, asciiW [97, c] = .error (k, i))) := by
  have hs : smallZ (c : Int) = false := decide_eq_false (by omega)
  have hm : mayB c = charZ (c : Int) := by unfold mayB; rw [hs]; rfl
  have h97 : mayB 97 = true := by decide
  cases hc : charZ (c : Int) with
  | true =>
    left
    rw [hc] at hm
    have hb : badC [97, c] 0 = none := by rw [badC_next h97, badC_next hm]; rfl
    have hmk : marksL [97, c] = true := marks_yes (by simp) (by simp) (by simp; omega) (.inl (by simp))
    have hl := numD_len (n := (c - 128) * 2 + 1) (b := 72) (by omega)
    have he := encN_two h
    have hlen : (encN [97, c]).length = 2 + (numD ((c - 128) * 2 + 1) 72).length := by rw [he]; simp; omega
    refine ⟨rfl, _, asciiW_ok hb hmk (by simp; omega), ?_, ?_⟩
    · show 5 < (xnL ++ encN [97, c]).toArray.size
      simp [xnL]
      omega
    · rw [ByteArray.toList_eq]
      simp [xnL]
  | false =>
    right
    rw [hc] at hm
    exact ⟨rfl, 11, _, asciiW_bad (by rw [badC_next h97, badC_hit hm])⟩
theorem lowerB_high {b : UInt8} (h : 128 ≤ b.toNat) : lowerB b = b := by
  apply UInt8.toNat_inj.1
  rw [lowerB_nat]
  unfold smallN
  split <;> omega
theorem putL_high {c : Nat} (h : 128 ≤ c) (h2 : c ≤ 1114111) : ∀ b ∈ putL c, 128 ≤ b.toNat := by
  intro b hb
  unfold putL at hb
  obtain ⟨n, hn, rfl⟩ := List.mem_map.1 hb
  unfold putN at hn
  split at hn
  · omega
  · split at hn
    · simp at hn
      rcases hn with rfl | rfl
      · rw [UInt8.toNat_ofNat_of_lt' (by have : 192 + c / 64 < 256 := by omega
                                         exact this)]; omega
      · rw [UInt8.toNat_ofNat_of_lt' (by have : 128 + c % 64 < 256 := by omega
                                         exact this)]; omega
    · split at hn
      · simp at hn
        rcases hn with rfl | rfl | rfl
        · rw [UInt8.toNat_ofNat_of_lt' (by have : 224 + c / 4096 < 256 := by omega
                                           exact this)]; omega
        · rw [UInt8.toNat_ofNat_of_lt' (by have : 128 + c / 64 % 64 < 256 := by omega
                                           exact this)]; omega
        · rw [UInt8.toNat_ofNat_of_lt' (by have : 128 + c % 64 < 256 := by omega
                                           exact this)]; omega
      · simp at hn
        rcases hn with rfl | rfl | rfl | rfl
        · rw [UInt8.toNat_ofNat_of_lt' (by have : 240 + c / 262144 < 256 := by omega
                                           exact this)]; omega
        · rw [UInt8.toNat_ofNat_of_lt' (by have : 128 + c / 4096 % 64 < 256 := by omega
                                           exact this)]; omega
        · rw [UInt8.toNat_ofNat_of_lt' (by have : 128 + c / 64 % 64 < 256 := by omega
                                           exact this)]; omega
        · rw [UInt8.toNat_ofNat_of_lt' (by have : 128 + c % 64 < 256 := by omega
                                           exact this)]; omega
theorem ascii_char {c : Nat} (h : 128 ≤ c) (hr : rightB (c : Int) = true) (h2 : c ≤ 1114111) : asciiL ⟨(97 :: putL c).toArray⟩ = asciiW [97, c] := by
  have hrc := (rightC_iff c).2 hr
  have hput : putAll [97, c] = 97 :: putL c := by
    show putL 97 ++ (putL c ++ []) = _
    rw [List.append_nil]
    rfl
  have hch : chrs ⟨(97 :: putL c).toArray⟩ = ([97, c], none) := by
    rw [← hput]
    exact chrs_put [97, c] fun x hx => by
      simp at hx
      rcases hx with rfl | rfl
      · exact .inl (by omega)
      · exact hrc
  have hlow : lowerS ⟨(97 :: putL c).toArray⟩ = ⟨(97 :: putL c).toArray⟩ := by
    have e0 : lowerS ⟨(97 :: putL c).toArray⟩ = ⟨((97 :: putL c).map lowerB).toArray⟩ := rfl
    have e1 : (putL c).map lowerB = putL c := by
      have := List.map_congr_left (l := putL c) (f := lowerB) (g := id) fun b hb => lowerB_high (putL_high h h2 b hb)
      rw [this, List.map_id]
    have e2 : lowerB 97 = 97 := by decide
    rw [e0, List.map_cons, e1, e2]
  rw [asciiL_wide (by rw [hch]) (by rw [hch]; unfold wideL; simp [h]), hlow, lowC_ok (by rw [hch]), hch]
end Go.Proofs.YtbonnmkkacplgaaGreatDoor
