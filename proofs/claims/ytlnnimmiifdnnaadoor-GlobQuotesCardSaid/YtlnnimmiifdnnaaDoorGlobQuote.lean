/- glob.Quote; the reference's Quote. -/
import Derived.Test.YtlnnimmiifdnnaaDoorBuilder
import Derived.Test.YtlnnimmiifdnnaaDoorAllIn
import Derived.Test.YtlnnimmiifdnnaaDoorGlobMatch
namespace Go.Proofs.YtlnnimmiifdnnaaDoor
open Go.RowKit

def ofL (l : List UInt8) : ByteArray := ⟨l.toArray⟩
theorem ofL_app (a b : List UInt8) : ofL a ++ ofL b = ofL (a ++ b) := by
  unfold ofL
  apply ByteArray.ext
  apply Array.ext'
  rw [ByteArray.data_append]
  simp
theorem ofL_list (s : ByteArray) : ofL s.data.toList = s := by unfold ofL; rfl
theorem extract_one {s : ByteArray} {i : Nat} (h : i < s.size) : s.extract i (i + 1) = ofL [byteAt s i] := by
  apply ByteArray.ext
  apply Array.ext'
  rw [Lib.extract_data]
  have hl : s.data.toList.length = s.size := rfl
  have : s.data.toList.drop i = s.data.toList[i]'(by omega) :: s.data.toList.drop (i + 1) := List.drop_eq_getElem_cons (by omega)
  rw [this]
  unfold byteAt ofL
  simp [List.getD]
  rw [Array.getElem?_eq_getElem (show i < s.data.size from h)]
  rfl
theorem byte_string (c : UInt8) (w : World) : (convert 27 9 (.slice (some ⟨w.heap.size, 0, none⟩) 1 1)).run Tryd.prog (w.alloc (.cells #[.int .u8 (c.toNat : Int)] 5)) = .ok (.string ⟨#[c]⟩) (w.alloc (.cells #[.int .u8 (c.toNat : Int)] 5)) := by
  have hB : BytesAt (w.alloc (.cells #[.int .u8 (c.toNat : Int)] 5)) w.heap.size [c] := ⟨5, [], 0, 0, .inl (Nat.le_refl _), heap_alloc_new w _⟩
  exact run_back (P := Tryd.prog) _ 27 9 5 w.heap.size 1 [c] Tryd.underlying27 Tryd.underlying5 Tryd.underlying9 hB
theorem all_one (m : ByteArray) (c : UInt8) : allB ⟨#[c]⟩ m = hasB m c := by
  unfold allB
  show (List.range 1).all _ = _
  simp [List.range, List.range.loop, byteAt]
def signs : ByteArray := ⟨#[46, 42, 92]⟩
theorem signs_has (c : UInt8) : hasB signs c = decide (c.toNat = 46 ∨ c.toNat = 42 ∨ c.toNat = 92) := by
  have : ∀ n : Fin 256, hasB signs (UInt8.ofNat n.1) = decide ((UInt8.ofNat n.1).toNat = 46 ∨ (UInt8.ofNat n.1).toNat = 42 ∨ (UInt8.ofNat n.1).toNat = 92) := by decide +kernel
  have h := this ⟨c.toNat, c.toNat_lt⟩
  simpa using h
def quoteTo (s : ByteArray) (i : Nat) : List UInt8 := (s.data.toList.take i).flatMap escB
theorem quoteTo_succ {s : ByteArray} {i : Nat} (h : i < s.size) : quoteTo s (i + 1) = quoteTo s i ++ escB (byteAt s i) := by
  have hl : s.data.toList.length = s.size := rfl
  have hb : byteAt s i = s.data.toList[i]'(by omega) := by unfold byteAt; rw [List.getD, List.getElem?_eq_getElem (by omega)]; rfl
  unfold quoteTo
  rw [List.take_succ_eq_append_getElem (by omega), List.flatMap_append, hb]
  simp
theorem quoteTo_all (s : ByteArray) : ofL (quoteTo s s.size) = quoteS s := by
  have hl : s.data.toList.length = s.size := rfl
  unfold quoteTo quoteS ofL
  rw [← hl, List.take_length]
theorem quoteTo_len (s : ByteArray) (i : Nat) : (quoteTo s i).length ≤ 2 * i := by
  have : ∀ l : List UInt8, (l.flatMap escB).length ≤ 2 * l.length := by
    intro l
    induction l with
    | nil => simp
    | cons b l ih =>
      rw [List.flatMap_cons, List.length_append, List.length_cons]
      have : (escB b).length ≤ 2 := by unfold escB; split <;> simp
      omega
  have h1 := this (s.data.toList.take i)
  have h2 := List.length_take_le i s.data.toList
  unfold quoteTo; omega
theorem escB_yes {c : UInt8} (h : hasB signs c = true) : escB c = [92, c] := by
  rw [signs_has, decide_eq_true_iff] at h
  unfold escB; rw [if_pos h]
theorem escB_no {c : UInt8} (h : hasB signs c = false) : escB c = [c] := by
  rw [signs_has, decide_eq_false_iff_not] at h
  unfold escB; rw [if_neg h]

set_option maxHeartbeats 3200000 in
set_option maxRecDepth 100000 in
theorem glob_Quote (s : ByteArray) (w : World) (hs : s.size ≤ 16777216) : Calls Tryd.prog 13 #[.string s] w fun e w' => e = .returned (.string (quoteS s)) ∧ Below w.heap.size w w' := by
  have hmk := byte_string
  have HMK := Lib.hid hmk
  go_enter Tryd.func13, Tryd.ntmps13
  go_wp2_with ((with_reducible refine wpList_bytes (o := ⟨some 7, _, _, _, _, _⟩) rfl 9 27 5 _ rfl s rfl Tryd.underlying9 Tryd.underlying27 Tryd.underlying5 ?_); intro cap w2 hcap hB hb2 hsz2)
  have hnew : w2.heap[w.heap.size]? = some (.cells #[.pointer none, .slice none 0 0] 50) := (hb2.block w.heap.size (by simp)).trans (heap_alloc_new w _)
  have hbl : Bld w2 w2.heap.size w.heap.size [] := Bld.new rfl hnew (by simp at hsz2; omega)
  have hb02 : Below w.heap.size w w2 := ((Below.refl w.heap.size w).alloc (Nat.le_refl _) _).trans (hb2.mono (by simp))
  simp only [World.size_alloc] at hB hsz2
  have hg1 : w.heap.size + 1 < w2.heap.size := by omega
  clear hnew hb2 hsz2
  go_loopw [9] (fun x wr => ∃ i : Nat, i ≤ s.size ∧ x = .int .i64 i ∧ Bld wr w2.heap.size w.heap.size (quoteTo s i) ∧ ButB w2.heap.size w.heap.size w2 wr) (fun x _ => s.size - (intOf x).toNat)
  case atStart => exact ⟨0, Nat.zero_le _, rfl, by unfold quoteTo; simpa using hbl, ButB.refl _ _ _⟩
  case round =>
    obtain ⟨i, hil, rfl, hbr, hbu⟩ := hrel
    have hsz := hbu.size
    by_cases hlt : i < s.size
    · have hc := (hB.but hbu hg1 (by omega)).byte hlt
      have hstep := quoteTo_succ hlt
      have hlen := quoteTo_len s i
      generalize quoteTo s i = done at *
      generalize byteAt s i = c at *
      have hsg := fun h => escB_yes (c := c) h
      have hsn := fun h => escB_no (c := c) h
      have HS := Lib.hid hstep
      have HY := Lib.hid hsg
      have HN := Lib.hid hsn
      clear hstep hsg hsn
      have hcv := HMK.out c wr
      have hall := all_one signs c
      have cA := fun W => fold_All ⟨#[c]⟩ ⟨#[46, 42, 92]⟩ W (by show 1 ≤ _; omega)
      have e0 : allB ⟨#[c]⟩ ⟨#[46, 42, 92]⟩ = hasB signs c := hall
      rw [e0] at cA
      have CA := Lib.hid cA
      clear cA hall e0 hmk
      have hba : Below wr.heap.size wr (wr.alloc (.cells #[.int .u8 (c.toNat : Int)] 5)) := (Below.refl _ _).alloc (Nat.le_refl _) _
      go_wp2_with fail
      refine (CA.out _).mono ?_
      rintro e w3 ⟨rfl, hb3⟩
      have hb13 := Bt hba hb3
      have hbr3 := hbr.below hb13
      have hbu3 := hbu.trans (ButB.of_below (hb13.mono hsz))
      have hsz3 := hb13.size
      clear hba hb3 hb13 hcv hbr hbu hc
      by_cases hh : hasB signs c = true
      · have HH := Lib.hid (HS.out.trans (by rw [HY.out hh]))
        rw [hh]
        clear hh
        go_wp2_with fail
        refine (bld_WriteByte w2.heap.size w.heap.size done 92 _ hbr3 (by omega) (by omega)).mono ?_
        rintro e w4 ⟨rfl, hbr4, hbu4⟩
        have hbu5 := hbu3.trans hbu4
        have hsz4 := hbu4.size
        clear hbu3 hbu4 hbr3
        go_wp2_with fail
        refine (bld_WriteByte w2.heap.size w.heap.size _ c _ hbr4 (by simp; omega) (by omega)).mono ?_
        rintro e w5 ⟨rfl, hbr5, hbu6⟩
        have hbu7 := hbu5.trans hbu6
        have ht : quoteTo s (i + 1) = done ++ [92] ++ [c] := by rw [HH.out]; simp
        rw [← ht] at hbr5
        clear ht hbu5 hbu6 hbr4
        go_wp2_with fail
        go_roundw
        case rel => exact ⟨i + 1, by omega, by go_num, hbr5, hbu7⟩
        case measure => simp [intOf]; omega
      · have hh : hasB signs c = false := by simpa using hh
        have HH := Lib.hid (HS.out.trans (by rw [HN.out hh]))
        rw [hh]
        clear hh
        go_wp2_with fail
        refine (bld_WriteByte w2.heap.size w.heap.size done c _ hbr3 (by omega) (by omega)).mono ?_
        rintro e w5 ⟨rfl, hbr5, hbu6⟩
        have hbu7 := hbu3.trans hbu6
        rw [← HH.out] at hbr5
        clear hbu3 hbu6 hbr3
        go_wp2_with fail
        go_roundw
        case rel => exact ⟨i + 1, by omega, by go_num, hbr5, hbu7⟩
        case measure => simp [intOf]; omega
    · obtain rfl : i = s.size := by omega
      have hfin := Lib.hid (quoteTo_all s)
      have hb2r := hb02.trans (hbu.below (Nat.le_refl _) (by omega))
      go_wp2_with fail
      refine (bld_String w2.heap.size w.heap.size _ _ hbr hsz).mono ?_
      rintro e w5 ⟨rfl, hb5⟩
      have hb6 := hb2r.trans hb5
      go_wp2_with fail
      go_ret
      exact ⟨ret_str hfin.out, hb6⟩

def escI (b : Bool) : List UInt8 := if b = true then [92] else []
theorem esc_eq (c : UInt8) : escB c = escI (((c.toNat : Int) == 46) || (((c.toNat : Int) == 42) || ((c.toNat : Int) == 92))) ++ [c] := by
  unfold escB escI
  by_cases h : c.toNat = 46 ∨ c.toNat = 42 ∨ c.toNat = 92
  · rw [if_pos h, if_pos (by simp; omega)]; rfl
  · rw [if_neg h, if_neg (by simp; omega)]; rfl

set_option maxHeartbeats 3200000 in
set_option maxRecDepth 100000 in
theorem ref_Quote (s : ByteArray) (w : World) (hs : s.size ≤ 16777216) : Calls Tryd.prog 14 #[.string s] w fun e w' => e = .returned (.string (quoteS s)) ∧ w = w' := by
  go_enter Tryd.func14, Tryd.ntmps14
  go_wp2_with fail
  go_loop [3, 4] (fun v x => ∃ i : Nat, i ≤ s.size ∧ x = .int .i64 i ∧ v = .string (ofL (quoteTo s i))) (fun _ x => s.size - (intOf x).toNat)
  case atStart => exact ⟨0, Nat.zero_le _, rfl, rfl⟩
  case round =>
    obtain ⟨i, hil, rfl, rfl⟩ := hrel
    by_cases hlt : i < s.size
    · have hb := byteAt_idx hlt
      have hx := extract_one hlt
      have hst := quoteTo_succ hlt
      rw [esc_eq, ← hb] at hst
      rw [← hb] at hx
      have hfin : ∀ d : List UInt8, d = escI (((s[i].toNat : Int) == 46) || (((s[i].toNat : Int) == 42) || ((s[i].toNat : Int) == 92))) → ofL (quoteTo s i) ++ ofL d ++ s.extract i (i + 1) = ofL (quoteTo s (i + 1)) := by
        rintro d rfl
        rw [hx, ofL_app, ofL_app, hst, List.append_assoc]
      have HF := Lib.hid hfin
      have hzd : (ofL (quoteTo s i)).size ≤ 33554432 := by
        have h1 := quoteTo_len s i
        show (quoteTo s i).toArray.size ≤ _
        simp; omega
      have hze : (s.extract i (i + 1)).size ≤ 1 := by rw [extract_size s i (i + 1) (by omega) (by omega)]; omega
      generalize quoteTo s i = done at *
      generalize ofL done = od at *
      have t2 : (i : Int) + 1 ≤ (s.size : Int) := by omega
      clear hb hx hst hfin
      by_cases h1 : ((s[i].toNat : Int) == 46) = true
      · go_wp2_with fail
        go_round
        case rel => exact ⟨i + 1, by omega, by go_num, congrArg Value.string (HF.out [92] (by rw [h1]; rfl))⟩
        case measure => simp [intOf]; omega
      · have h1 : ((s[i].toNat : Int) == 46) = false := by simpa using h1
        by_cases h2 : ((s[i].toNat : Int) == 42) = true
        · go_wp2_with fail
          go_round
          case rel => exact ⟨i + 1, by omega, by go_num, congrArg Value.string (HF.out [92] (by rw [h1, h2]; rfl))⟩
          case measure => simp [intOf]; omega
        · have h2 : ((s[i].toNat : Int) == 42) = false := by simpa using h2
          by_cases h3 : ((s[i].toNat : Int) == 92) = true
          · go_wp2_with fail
            go_round
            case rel => exact ⟨i + 1, by omega, by go_num, congrArg Value.string (HF.out [92] (by rw [h1, h2, h3]; rfl))⟩
            case measure => simp [intOf]; omega
          · have h3 : ((s[i].toNat : Int) == 92) = false := by simpa using h3
            go_wp2_with fail
            go_round
            case rel => exact ⟨i + 1, by omega, by go_num, congrArg Value.string (by
              have := HF.out [] (by rw [h1, h2, h3]; rfl)
              rw [show ofL [] = ByteArray.empty from rfl, ByteArray.append_empty] at this
              exact this)⟩
            case measure => simp [intOf]; omega
    · obtain rfl : i = s.size := by omega
      have hfin := Lib.hid (quoteTo_all s)
      go_wp2_with fail
      go_ret
      exact ⟨ret_str hfin.out, rfl⟩
end Go.Proofs.YtlnnimmiifdnnaaDoor
