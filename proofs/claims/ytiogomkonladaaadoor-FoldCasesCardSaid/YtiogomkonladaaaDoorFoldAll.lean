/- fold.All, the reference's All, fold.Same. -/
import Derived.Test.YtiogomkonladaaaDoorFoldLower
import Derived.Test.YtiogomkonladaaaDoorStrs
import Derived.Test.YtiogomkonladaaaDoorShelf
import Derived.Lib.IndexLaws
namespace Go.Proofs.YtiogomkonladaaaDoor
open Go.RowKit

/-- Do all bytes of a text stand in another one? -/
def allB (s m : ByteArray) : Bool := (List.range s.size).all fun i => hasB m (byteAt s i)
theorem allB_no {s m : ByteArray} {i : Nat} (hi : i < s.size) (h : hasB m (byteAt s i) = false) : allB s m = false := by
  unfold allB; rw [List.all_eq_false]; exact ⟨i, by simpa using hi, by simpa using h⟩
theorem allB_yes {s m : ByteArray} (h : ∀ i, i < s.size → hasB m (byteAt s i) = true) : allB s m = true := by
  unfold allB; rw [List.all_eq_true]; intro i hi; exact h i (by simpa using hi)
theorem index_has (m : ByteArray) (c : UInt8) : (hasB m c = true ∧ 0 ≤ Lib.indexByte m.data.toList c) ∨ (hasB m c = false ∧ Lib.indexByte m.data.toList c < 0) := by
  have hl : m.data.toList.length = m.size := rfl
  have hge := Lib.indexByte_ge m.data.toList c
  by_cases h : Lib.indexByte m.data.toList c = -1
  · refine .inr ⟨hasB_no fun j hj e => ?_, by omega⟩
    have := Lib.indexByte_none h j
    rw [List.getElem?_eq_getElem (by omega)] at this
    apply this
    rw [← e]
    unfold byteAt
    rw [List.getD, List.getElem?_eq_getElem (by omega)]; rfl
  · obtain ⟨o, ho⟩ := Int.eq_ofNat_of_zero_le (show 0 ≤ Lib.indexByte m.data.toList c by omega)
    have h2 := (Lib.indexByte_some ho).1
    have hlt : o < m.data.toList.length := (List.getElem?_eq_some_iff.1 h2).1
    refine .inl ⟨hasB_yes (k := o) (by omega) ?_, by omega⟩
    unfold byteAt
    rw [List.getD, h2]; rfl

set_option maxHeartbeats 1600000 in
theorem fold_All (s m : ByteArray) (w : World) (hs : s.size ≤ 140737488351232) : Calls Tryd.prog 17 #[.string s, .string m] w fun e w' => e = .returned (.bool (allB s m)) ∧ Below w.heap.size w w' := by
  go_enter Tryd.func17, Tryd.ntmps17
  go_wp2_with ((with_reducible refine wpList_bytes (o := ⟨some 8, _, _, _, _, _⟩) rfl 9 33 5 _ rfl s rfl Tryd.underlying9 Tryd.underlying33 Tryd.underlying5 ?_); intro cap w1 hcap hB hb1 hsz1)
  go_loopw [10] (fun a wr => ∃ i : Nat, i ≤ s.size ∧ a = .int .i64 i ∧ (∀ j, j < i → hasB m (byteAt s j) = true) ∧ w1 = wr) (fun a _ => s.size - (intOf a).toNat)
  case atStart => exact ⟨0, Nat.zero_le _, rfl, fun j hj => by omega, rfl⟩
  case round =>
    obtain ⟨i, hil, rfl, hall, rfl⟩ := hrel
    have HA := Lib.hid hall
    clear hall
    by_cases hlt : i < s.size
    · have hc := hB.byte hlt
      have hix := index_has m (byteAt s i)
      have hstep : hasB m (byteAt s i) = true → ∀ j, j < i + 1 → hasB m (byteAt s j) = true := fun h j hj => by
        by_cases hji : j = i
        · rw [hji]; exact h
        · exact HA.out j (by omega)
      have hno : hasB m (byteAt s i) = false → allB s m = false := allB_no hlt
      have HS := Lib.hid hstep
      have HN := Lib.hid hno
      clear hstep hno
      have hcall := fun W => Tryd.strings_IndexByte m ((byteAt s i).toNat : Int) W
      have hcc : ((((byteAt s i).toNat : Int)).toNat.toUInt8) = byteAt s i := by simp
      rw [hcc] at hcall
      have HC := Lib.hid hcall
      clear hcall hcc
      generalize hxx : byteAt s i = c at *
      generalize Lib.indexByte m.data.toList c = ix at *
      clear hxx
      rcases hix with ⟨h1, h2⟩ | ⟨h1, h2⟩
      · have H1 := Lib.hid h1
        clear h1
        go_wp2_with fail
        refine (HC.out _).mono ?_
        rintro e w2 ⟨rfl, rfl⟩
        go_wp2_with fail
        go_roundw
        case rel => exact ⟨i + 1, by omega, by go_num, HS.out H1.out, by trivial⟩
        case measure => simp [intOf]; omega
      · have H1 := Lib.hid (HN.out h1)
        clear h1
        go_wp2_with fail
        refine (HC.out _).mono ?_
        rintro e w2 ⟨rfl, rfl⟩
        go_wp2_with fail
        go_ret
        exact ⟨ret_bool H1.out.symm, hb1⟩
    · have hy := Lib.hid (allB_yes (s := s) (m := m) fun j hj => HA.out j (by omega))
      obtain rfl : i = s.size := by omega
      go_wp2_with fail
      go_ret
      exact ⟨ret_bool hy.out.symm, hb1⟩

set_option maxHeartbeats 1600000 in
theorem ref_All (s m : ByteArray) (w : World) (hs : s.size ≤ 140737488351232) (hm : m.size ≤ 140737488351232) : Calls Tryd.prog 18 #[.string s, .string m] w fun e w' => e = .returned (.bool (allB s m)) ∧ w = w' := by
  go_enter Tryd.func18, Tryd.ntmps18
  go_wp2_with fail
  go_loopw [5] (fun a wr => ∃ i : Nat, i ≤ s.size ∧ a = .int .i64 i ∧ (∀ j, j < i → hasB m (byteAt s j) = true) ∧ w = wr) (fun a _ => s.size - (intOf a).toNat)
  case atStart => exact ⟨0, Nat.zero_le _, rfl, fun j hj => by omega, rfl⟩
  case round =>
    obtain ⟨i, hil, rfl, hall, rfl⟩ := hrel
    have HA := Lib.hid hall
    clear hall
    by_cases hlt : i < s.size
    · have hbk : s[i] = byteAt s i := by simp [byteAt, List.getD, hlt]; rfl
      have HBK := Lib.hid hbk
      have hstep : hasB m (byteAt s i) = true → ∀ j, j < i + 1 → hasB m (byteAt s j) = true := fun h j hj => by
        by_cases hji : j = i
        · rw [hji]; exact h
        · exact HA.out j (by omega)
      have hno : hasB m (byteAt s i) = false → allB s m = false := allB_no hlt
      have HS := Lib.hid hstep
      have HN := Lib.hid hno
      clear hstep hno hbk
      go_wp2_with fail
      rw [HBK.out]
      clear HBK
      generalize byteAt s i = c at *
      refine (ref_Has m c _ hm).mono ?_
      rintro e w2 ⟨rfl, rfl⟩
      by_cases h1 : hasB m c = true
      · rw [h1]
        have H1 := Lib.hid (HS.out h1)
        clear h1
        go_wp2_with fail
        go_roundw
        case rel => exact ⟨i + 1, by omega, by go_num, H1.out, by trivial⟩
        case measure => simp [intOf]; omega
      · have h1 : hasB m c = false := by simpa using h1
        rw [h1]
        have H1 := Lib.hid (HN.out h1)
        clear h1
        go_wp2_with fail
        go_ret
        exact ⟨ret_bool H1.out.symm, rfl⟩
    · have hy := Lib.hid (allB_yes (s := s) (m := m) fun j hj => HA.out j (by omega))
      obtain rfl : i = s.size := by omega
      go_wp2_with fail
      go_ret
      exact ⟨ret_bool hy.out.symm, rfl⟩

/-- Are two texts one, but for great and small letters? -/
def sameB (a b : ByteArray) : Bool := decide (lowerS a = lowerS b)
theorem sameB_size {a b : ByteArray} (h : a.size ≠ b.size) : sameB a b = false := by
  unfold sameB
  refine decide_eq_false fun e => h ?_
  rw [← lowerS_size a, ← lowerS_size b, e]
theorem sameB_eq (a b : ByteArray) : ((lowerS a).toList == (lowerS b).toList) = sameB a b := by
  unfold sameB
  rw [str_eqB]

set_option maxHeartbeats 1600000 in
theorem fold_Same (a b : ByteArray) (w : World) (ha : a.size ≤ 140737488351232) (hb : b.size ≤ 140737488351232) : Calls Tryd.prog 13 #[.string a, .string b] w fun e w' => e = .returned (.bool (sameB a b)) ∧ Below w.heap.size w w' := by
  by_cases h : a.size = b.size
  · have hq := Lib.hid (sameB_eq a b)
    have e1 : ((a.size : Int) == (b.size : Int)) = true := by rw [beq_iff_eq]; omega
    go_enter Tryd.func13, Tryd.ntmps13
    go_wp2_with fail
    refine (fold_Lower a _ ha).mono ?_
    rintro e w1 ⟨rfl, hb1⟩
    go_wp2_with fail
    refine (fold_Lower b _ hb).mono ?_
    rintro e w2 ⟨rfl, hb2⟩
    have hb3 := Bt hb1 hb2
    generalize lowerS a = la at *
    generalize lowerS b = lb at *
    go_wp2_with fail
    go_ret
    exact ⟨ret_bool hq.out, hb3⟩
  · have hq := Lib.hid (sameB_size h)
    have e1 : ((a.size : Int) == (b.size : Int)) = false := by rw [beq_eq_false_iff_ne]; omega
    clear h
    go_enter Tryd.func13, Tryd.ntmps13
    go_wp2_with fail
    go_ret
    exact ⟨ret_bool hq.out.symm, Below.refl _ _⟩
end Go.Proofs.YtiogomkonladaaaDoor
