/- utf.right, utf.Put, utf.Text. -/
import Derived.Test.YtkeankhacjgdhaaUtfHalf
import Derived.Test.YtkeankhacjgdhaaTextPlain
import Derived.Test.YtkeankhacjgdhaaApi
import Derived.Test.YtkeankhacjgdhaaRowed
namespace Go.Proofs.Ytkeankhacjgdhaa
open Go.RowKit

set_option maxHeartbeats 800000 in
theorem utf_right (n : Int) (w : World) : Calls Try.prog 35 #[.int .i64 n] w fun e w' => e = .returned (.bool (rightB n)) ∧ w = w' := by
  have hd : rightB n = (decide (0 ≤ n) && decide (n < 1114112) && decide (halfZ n = 0)) := rfl
  have HD := Lib.hid hd
  clear hd
  by_cases a1 : 0 ≤ n
  · by_cases a2 : n < 1114112
    · have a4 : n ≤ 1114111 := by omega
      by_cases a3 : halfZ n = 0
      · have e1 : (halfZ n == 0) = true := by rw [beq_iff_eq]; exact a3
        have HR := Lib.hid (show rightB n = true by rw [HD.out, decide_eq_true a1, decide_eq_true a2, decide_eq_true a3]; rfl)
        clear a3
        go_enter Try.func35, Try.ntmps35
        go_wp2_with fail
        refine (utf_Half n _).mono ?_
        rintro e w1 ⟨rfl, rfl⟩
        go_wp2_with fail
        go_ret
        exact ⟨ret_bool HR.out.symm, rfl⟩
      · have e1 : (halfZ n == 0) = false := by rw [beq_eq_false_iff_ne]; exact a3
        have HR := Lib.hid (show rightB n = false by rw [HD.out, decide_eq_false a3, Bool.and_false])
        clear a3
        go_enter Try.func35, Try.ntmps35
        go_wp2_with fail
        refine (utf_Half n _).mono ?_
        rintro e w1 ⟨rfl, rfl⟩
        go_wp2_with fail
        go_ret
        exact ⟨ret_bool HR.out.symm, rfl⟩
    · have HR := Lib.hid (show rightB n = false by rw [HD.out, decide_eq_false a2, Bool.and_false, Bool.false_and])
      have a2' : 1114112 ≤ n := by omega
      clear a2
      go_enter Try.func35, Try.ntmps35
      go_wp2_with fail
      go_ret
      exact ⟨ret_bool HR.out.symm, rfl⟩
  · have HR := Lib.hid (show rightB n = false by rw [HD.out, decide_eq_false a1, Bool.false_and, Bool.false_and])
    have a1' : n < 0 := by omega
    clear a1
    go_enter Try.func35, Try.ntmps35
    go_wp2_with fail
    go_ret
    exact ⟨ret_bool HR.out.symm, rfl⟩

theorem right_nat {n : Int} (h : rightB n = true) : ∃ c : Nat, n = c ∧ rightC c ∧ c ≤ 1114111 := by
  have hz := (rightB_iff n).1 h
  unfold rightZ at hz
  obtain ⟨c, rfl⟩ := Int.eq_ofNat_of_zero_le hz.1
  exact ⟨c, rfl, (rightC_iff c).2 h, by omega⟩

/-- utf8.AppendRune onto bytes of the call's own. -/
theorem append_rune (B : Nat) (v : Value) (l : List UInt8) (c : Nat) (hc : rightC c) (w : World) (hown : OwnB w B v l) (hl : l.length ≤ 1073741824) (hB : B ≤ w.heap.size) :
    Calls Try.prog 36 #[v, .int .i32 (c : Int)] w fun e w' => ∃ v', e = .returned v' ∧ OwnB w' B v' (l ++ putL c) ∧ ∃ o, (w.alloc o).grownBy w' v.ownBlock := by
  have h1 : (c : Int) ≤ 1114111 := by unfold rightC at hc; omega
  refine (Try.utf8_AppendRune_plain B v l.length (l.map byteV) c (by omega) (by omega) w hown (by omega) hB).mono ?_
  rintro e w' ⟨v', he, h, hg⟩
  refine ⟨v', he, ?_, hg⟩
  rw [runeCells_put hc] at h
  unfold OwnB
  rw [List.length_append, List.map_append]
  simpa using h

def UPutPost (n : Int) (w : World) (e : Ending) (w' : World) : Prop :=
  Below w.heap.size w w' ∧ ((rightB n = true ∧ ∃ v, e = .returned (.tuple #[v, .nilIface]) ∧ OwnB w' w.heap.size v (putL n.toNat)) ∨
    (rightB n = false ∧ ∃ v, e = .returned (.tuple #[.slice none 0 0, v]) ∧ IsFault w' v 16 0))

set_option maxHeartbeats 800000 in
theorem utf_Put (n : Int) (w : World) : Calls Try.prog 25 #[.int .i64 n] w (UPutPost n w) := by
  by_cases hr : rightB n = true
  · have hr' := hr
    obtain ⟨c, rfl, hc, hc2⟩ := right_nat hr
    have cR := Lib.hid (fun W => hr ▸ utf_right (c : Int) W)
    have HR := Lib.hid hr'
    clear hr hr'
    go_enter Try.func25, Try.ntmps25
    go_wp2_with fail
    refine (cR.out _).mono ?_
    rintro e w1 ⟨rfl, rfl⟩
    go_wp2_with fail
    refine (append_rune w.heap.size _ [] c hc _ (OwnB.nil _ _) (by simp) (Nat.le_refl _)).mono ?_
    rintro e w2 ⟨v, rfl, hown, o, hgr⟩
    have hb : Below w.heap.size w w2 := ((Below.refl w.heap.size w).alloc (Nat.le_refl _) o).grown hgr (by simp) (fun k hk => by cases hk)
    go_wp2_with fail
    go_ret2
    exact ⟨hb, .inl ⟨HR.out, v, rfl, by simpa using hown⟩⟩
  · have hr : rightB n = false := by simpa using hr
    have cR := Lib.hid (fun W => hr ▸ utf_right n W)
    have HR := Lib.hid hr
    clear hr
    go_enter Try.func25, Try.ntmps25
    go_wp2_with fail
    refine (cR.out _).mono ?_
    rintro e w1 ⟨rfl, rfl⟩
    go_wp2_with fail
    refine (api_Fail' 16 0 _).mono ?_
    rintro e w2 ⟨v, rfl, hv, hb⟩
    go_wp2_with fail
    go_ret2
    exact ⟨hb, .inr ⟨HR.out, v, rfl, hv⟩⟩

end Go.Proofs.Ytkeankhacjgdhaa
