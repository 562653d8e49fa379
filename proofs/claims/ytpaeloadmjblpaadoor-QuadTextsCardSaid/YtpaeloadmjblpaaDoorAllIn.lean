/- fold.All. -/
import Derived.Test.YtpaeloadmjblpaaDoorStrs
import Derived.Test.YtpaeloadmjblpaaDoorShelf
import Derived.Lib.IndexLaws
namespace Go.Proofs.YtpaeloadmjblpaaDoor
open Go.RowKit

/-- Do all bytes of a text stand in another one? -/
def allB (s m : ByteArray) : Bool := (List.range s.size).all fun i => hasB m (byteAt s i)
theorem allB_no {s m : ByteArray} {i : Nat} (hi : i < s.size) (h : hasB m (byteAt s i) = false) : allB s m = false := by
  unfold allB; rw [List.all_eq_false]; exact ⟨i, by simpa using hi, by simpa using h⟩
theorem allB_yes {s m : ByteArray} (h : ∀ i, i < s.size → hasB m (byteAt s i) = true) : allB s m = true := by
  unfold allB; rw [List.all_eq_true]; intro i hi; exact h i (by simpa using hi)
theorem index_has (m : ByteArray) (c : UInt8) : (hasB m c = true ∧ 0 ≤ Lib.indexByte m.data.toList c) ∨ (hasB m c = false ∧ Lib.indexByte m.data.toList c < 0) := by
  have hl : m.data.toList.length = m.size := rfl
  have hge := Lib.indexByte_ge m.data.toList c
  by_cases h : Lib.indexByte m.data.toList c = -1
  · refine .inr ⟨hasB_no fun j hj e => ?_, by omega⟩
    have := Lib.indexByte_none h j
    rw [List.getElem?_eq_getElem (by omega)] at this
    apply this
    rw [← e]
    unfold byteAt
    rw [List.getD, List.getElem?_eq_getElem (by omega)]; rfl
  · obtain ⟨o, ho⟩ := Int.eq_ofNat_of_zero_le (show 0 ≤ Lib.indexByte m.data.toList c by omega)
    have h2 := (Lib.indexByte_some ho).1
    have hlt : o < m.data.toList.length := (List.getElem?_eq_some_iff.1 h2).1
    refine .inl ⟨hasB_yes (k := o) (by omega) ?_, by omega⟩
    unfold byteAt
    rw [List.getD, h2]; rfl

set_option maxHeartbeats 1600000 in
theorem fold_All (s m : ByteArray) (w : World) (hs : s.size ≤ 140737488351232) : Calls Tryd.prog 33 #[.string s, .string m] w fun e w' => e = .returned (.bool (allB s m)) ∧ Below w.heap.size w w' := by
  go_enter Tryd.func33, Tryd.ntmps33
  go_wp2_with ((with_reducible refine wpList_bytes (o := ⟨some 8, _, _, _, _, _⟩) rfl 9 29 5 _ rfl s rfl Tryd.underlying9 Tryd.underlying29 Tryd.underlying5 ?_); intro cap w1 hcap hB hb1 hsz1)
  go_loopw [10] (fun a wr => ∃ i : Nat, i ≤ s.size ∧ a = .int .i64 i ∧ (∀ j, j < i → hasB m (byteAt s j) = true) ∧ w1 = wr) (fun a _ => s.size - (intOf a).toNat)
  case atStart => exact ⟨0, Nat.zero_le _, rfl, fun j hj => by omega, rfl⟩
  case round =>
    obtain ⟨i, hil, rfl, hall, rfl⟩ := hrel
    have HA := Lib.hid hall
    clear hall
    by_cases hlt : i < s.size
    · have hc := hB.byte hlt
      have hix := index_has m (byteAt s i)
      have hstep : hasB m (byteAt s i) = true → ∀ j, j < i + 1 → hasB m (byteAt s j) = true := fun h j hj => by
        by_cases hji : j = i
        · rw [hji]; exact h
        · exact HA.out j (by omega)
      have hno : hasB m (byteAt s i) = false → allB s m = false := allB_no hlt
      have HS := Lib.hid hstep
      have HN := Lib.hid hno
      clear hstep hno
      have hcall := fun W => Tryd.strings_IndexByte m ((byteAt s i).toNat : Int) W
      have hcc : ((((byteAt s i).toNat : Int)).toNat.toUInt8) = byteAt s i := by simp
      rw [hcc] at hcall
      have HC := Lib.hid hcall
      clear hcall hcc
      generalize hxx : byteAt s i = c at *
      generalize Lib.indexByte m.data.toList c = ix at *
      clear hxx
      rcases hix with ⟨h1, h2⟩ | ⟨h1, h2⟩
      · have H1 := Lib.hid h1
        clear h1
        go_wp2_with fail
        refine (HC.out _).mono ?_
        rintro e w2 ⟨rfl, rfl⟩
        go_wp2_with fail
        go_roundw
        case rel => exact ⟨i + 1, by omega, by go_num, HS.out H1.out, by trivial⟩
        case measure => simp [intOf]; omega
      · have H1 := Lib.hid (HN.out h1)
        clear h1
        go_wp2_with fail
        refine (HC.out _).mono ?_
        rintro e w2 ⟨rfl, rfl⟩
        go_wp2_with fail
        go_ret
        exact ⟨ret_bool H1.out.symm, hb1⟩
    · have hy := Lib.hid (allB_yes (s := s) (m := m) fun j hj => HA.out j (by omega))
      obtain rfl : i = s.size := by omega
      go_wp2_with fail
      go_ret
      exact ⟨ret_bool hy.out.symm, hb1⟩
end Go.Proofs.YtpaeloadmjblpaaDoor
