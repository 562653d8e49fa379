/- The walk of FoldTexts. -/
import Derived.Test.YtiogomkonladaaaDoorFoldAll
import Derived.Test.YtiogomkonladaaaDoorFoldTrim
import Derived.Test.YtiogomkonladaaaDoorSpeaks
import Derived.Test.YtiogomkonladaaaDoorLaid
namespace Go.Proofs.YtiogomkonladaaaDoor
open Go.RowKit

theorem texts_long (a b : ByteArray) (w : World) (h : 2000 < a.size ∨ (a.size ≤ 2000 ∧ 2000 < b.size)) : Calls Tryd.prog 5 #[.string a, .string b] w fun e w' => e = .returned (.bool true) ∧ Below w.heap.size w w' := by
  rcases h with h | ⟨h, h'⟩
  all_goals
    go_enter Tryd.func5, Tryd.ntmps5
    go_wp2_with fail
    refine (law_speaks _).mono ?_
    rintro e w1 ⟨rfl, hb1⟩
    go_wp2_with fail
    go_ret
    exact ⟨rfl, hb1⟩

set_option maxHeartbeats 3200000 in
theorem texts_walk (a b : ByteArray) (w : World) (ha : a.size ≤ 2000) (hb : b.size ≤ 2000) : Calls Tryd.prog 5 #[.string a, .string b] w fun e w' => e = .returned (.bool true) ∧ Below w.heap.size w w' := by
  have hsame : sameB a (lowerS a) = true := by unfold sameB; rw [lowerS_idem]; exact decide_eq_true rfl
  have hls := lowerS_size a
  have hq := sameB_eq a b
  have c1 := Lib.hid (fun W => fold_Lower a W (by omega))
  have c2 := Lib.hid (fun W => ref_Lower a W (by omega))
  have c3 := Lib.hid (fun W => fold_Trim a W (by omega))
  have c4 := Lib.hid (fun W => ref_Trim a W (by omega))
  have c5 := Lib.hid (fun W => fold_Same a b W (by omega) (by omega))
  have c6 := Lib.hid (fun W => ref_Lower b W (by omega))
  have c7 := Lib.hid (fun W => fold_All a b W (by omega))
  have c8 := Lib.hid (fun W => ref_All a b W (by omega) (by omega))
  have c9 := Lib.hid (fun W => hsame ▸ fold_Same a (lowerS a) W (by omega) (by omega))
  clear hsame hls
  generalize lowerS a = la at *
  generalize lowerS b = lb at *
  generalize trimS a = ta at *
  generalize allB a b = ab at *
  have hla : (la.toList == la.toList) = true := beq_self_eq_true _
  have hta : (ta.toList == ta.toList) = true := beq_self_eq_true _
  go_enter Tryd.func5, Tryd.ntmps5
  go_wp2_with fail
  refine (law_speaks _).mono ?_
  rintro e w1 ⟨rfl, hb1⟩
  go_wp2_with fail
  refine (c1.out _).mono ?_
  rintro e w2 ⟨rfl, hb2⟩
  have hb1 := Bt hb1 hb2
  clear hb2
  go_wp2_with fail
  refine (c2.out _).mono ?_
  rintro e w2 ⟨rfl, hb2⟩
  have hb1 := Bt hb1 hb2
  clear hb2
  go_wp2_with fail
  refine (c3.out _).mono ?_
  rintro e w2 ⟨rfl, hb2⟩
  have hb1 := Bt hb1 hb2
  clear hb2
  go_wp2_with fail
  refine (c4.out _).mono ?_
  rintro e w2 ⟨rfl, rfl⟩
  go_wp2_with fail
  refine (c5.out _).mono ?_
  rintro e w2 ⟨rfl, hb2⟩
  have hb1 := Bt hb1 hb2
  clear hb2
  go_wp2_with fail
  refine (c2.out _).mono ?_
  rintro e w2 ⟨rfl, hb2⟩
  have hb1 := Bt hb1 hb2
  clear hb2
  go_wp2_with fail
  refine (c6.out _).mono ?_
  rintro e w2 ⟨rfl, hb2⟩
  have hb1 := Bt hb1 hb2
  clear hb2
  go_wp2_with fail
  refine (c7.out _).mono ?_
  rintro e w2 ⟨rfl, hb2⟩
  have hb1 := Bt hb1 hb2
  clear hb2
  go_wp2_with fail
  refine (c8.out _).mono ?_
  rintro e w2 ⟨rfl, rfl⟩
  go_wp2_with fail
  refine (c1.out _).mono ?_
  rintro e w2 ⟨rfl, hb2⟩
  have hb1 := Bt hb1 hb2
  clear hb2
  go_wp2_with fail
  refine (c9.out _).mono ?_
  rintro e w2 ⟨rfl, hb2⟩
  have hb1 := Bt hb1 hb2
  clear hb2
  go_wp2_with fail
  go_ret
  exact ⟨rfl, hb1⟩

theorem walkFoldTexts (a b : ByteArray) (w : World) (_ : Utf8Laid w) (_ : a.size ≤ maxLen) (_ : b.size ≤ maxLen) : Calls Tryd.prog 5 #[.string a, .string b] w fun e w' => e = .returned (.bool true) ∧ Below w.heap.size w w' := by
  by_cases h : a.size ≤ 2000 ∧ b.size ≤ 2000
  · exact texts_walk a b w h.1 h.2
  · exact texts_long a b w (by omega)
end Go.Proofs.YtiogomkonladaaaDoor
