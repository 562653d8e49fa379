/- glob.part.stands; the reference's same. -/
import Derived.Test.YtlnnimmiifdnnaaDoorGlobCheck
namespace Go.Proofs.YtlnnimmiifdnnaaDoor
open Go.RowKit

theorem stands_two (ch c : Nat) (m f : Bool) : standsB ⟨ch, false, m⟩ c f = (decide (ch = c) || (f && decide (smallC ch = smallC c))) := rfl

set_option maxHeartbeats 800000 in
theorem glob_stands (ch c : Nat) (wild many f : Bool) (hch : ch ≤ 1114111) (hc : c ≤ 1114111) (w : World) :
    Calls Tryd.prog 41 #[.agg #[.int .i64 (ch : Int), .bool wild, .bool many], .int .i64 (c : Int), .bool f] w fun e w' => e = .returned (.bool (standsB ⟨ch, wild, many⟩ c f)) ∧ Below w.heap.size w w' := by
  cases wild with
  | true =>
    have hv := Lib.hid (stands_wild ch many f c)
    go_enter Tryd.func41, Tryd.ntmps41
    go_wp2_with fail
    go_ret
    exact ⟨rfl, (Below.refl _ _).alloc (Nat.le_refl _) _⟩
  | false =>
    by_cases hcc : ch = c
    · have hv := Lib.hid (show standsB ⟨ch, false, many⟩ c f = true by rw [stands_two, decide_eq_true hcc]; rfl)
      have e1 : ((ch : Int) == (c : Int)) = true := by rw [beq_iff_eq]; omega
      clear hcc
      go_enter Tryd.func41, Tryd.ntmps41
      go_wp2_with fail
      go_ret
      exact ⟨ret_bool hv.out.symm, (Below.refl _ _).alloc (Nat.le_refl _) _⟩
    · have e1 : ((ch : Int) == (c : Int)) = false := by rw [beq_eq_false_iff_ne]; omega
      cases f with
      | false =>
        have hv := Lib.hid (show standsB ⟨ch, false, many⟩ c false = false by rw [stands_two, decide_eq_false hcc]; rfl)
        clear hcc
        go_enter Tryd.func41, Tryd.ntmps41
        go_wp2_with fail
        go_ret
        exact ⟨ret_bool hv.out.symm, (Below.refl _ _).alloc (Nat.le_refl _) _⟩
      | true =>
        have hv := Lib.hid (show standsB ⟨ch, false, many⟩ c true = decide (smallC ch = smallC c) by rw [stands_two, decide_eq_false hcc]; simp)
        clear hcc
        have HC := Lib.hid (fun (x : Nat) (hx : x ≤ 1114111) W => glob_small x hx W)
        generalize hx : smallC ch = x at *
        generalize hy : smallC c = y at *
        have HX := Lib.hid hx
        have HY := Lib.hid hy
        clear hx hy
        go_enter Tryd.func41, Tryd.ntmps41
        go_wp2_with fail
        refine (HC.out ch hch _).mono ?_
        rintro e w1 ⟨rfl, rfl⟩
        rw [HX.out]
        go_wp2_with fail
        refine (HC.out c hc _).mono ?_
        rintro e w1 ⟨rfl, rfl⟩
        rw [HY.out]
        by_cases hxy : x = y
        · have e3 : ((x : Int) == (y : Int)) = true := by rw [beq_iff_eq]; omega
          have hd := Lib.hid (show decide (x = y) = true from decide_eq_true hxy)
          clear hxy
          go_wp2_with fail
          go_ret
          exact ⟨ret_bool (by rw [hv.out, hd.out]), (Below.refl _ _).alloc (Nat.le_refl _) _⟩
        · have e3 : ((x : Int) == (y : Int)) = false := by rw [beq_eq_false_iff_ne]; omega
          have hd := Lib.hid (show decide (x = y) = false from decide_eq_false hxy)
          clear hxy
          go_wp2_with fail
          go_ret
          exact ⟨ret_bool (by rw [hv.out, hd.out]), (Below.refl _ _).alloc (Nat.le_refl _) _⟩

theorem small_byte (a b : Nat) (ha : a ≤ 127) (hb : b ≤ 127) : (((smallN a : Nat) : Int) == ((smallN b : Nat) : Int)) = (decide (a = b) || decide (smallC a = smallC b)) := by
  rw [Bool.eq_iff_iff, Bool.or_eq_true, decide_eq_true_iff, decide_eq_true_iff, beq_iff_eq, Int.ofNat_inj]
  exact ⟨fun h => .inr h, fun h => h.elim (fun e => by rw [e]) fun h => h⟩
theorem small_great (a b : Nat) (h : 127 < a ∨ 127 < b) : decide (a = b) = (decide (a = b) || decide (smallC a = smallC b)) := by
  rw [Bool.eq_iff_iff]
  unfold smallC
  simp only [Bool.or_eq_true, decide_eq_true_eq]
  split <;> split <;> omega
theorem nat_eqB (a b : Nat) : ((a : Int) == (b : Int)) = decide (a = b) := by
  rw [Bool.eq_iff_iff, beq_iff_eq, decide_eq_true_iff]; omega
theorem wrap_u8 (a : Nat) (h : a ≤ 127) : IntKind.u8.wrap (a : Int) = (a : Int) := by
  unfold IntKind.wrap; simp [IntKind.signed, IntKind.bits]; omega

/-- Are two characters the same, but, if so asked, for great and small letters? -/
def sameC (a b : Nat) (f : Bool) : Bool := decide (a = b) || (f && decide (smallC a = smallC b))
set_option maxHeartbeats 800000 in
theorem ref_same (a b : Nat) (f : Bool) (ha : a ≤ 1114111) (hb : b ≤ 1114111) (w : World) :
    Calls Tryd.prog 36 #[.int .i64 (a : Int), .int .i64 (b : Int), .bool f] w fun e w' => e = .returned (.bool (sameC a b f)) ∧ w = w' := by
  have hq := nat_eqB a b
  cases f with
  | false =>
    have hv := Lib.hid (show sameC a b false = decide (a = b) by unfold sameC; simp)
    have HQ := Lib.hid hq
    clear hq
    go_enter Tryd.func36, Tryd.ntmps36
    go_wp2_with fail
    go_ret
    exact ⟨ret_bool (by rw [hv.out]; exact HQ.out), rfl⟩
  | true =>
    by_cases h1 : a ≤ 127
    · by_cases h2 : b ≤ 127
      · have hv := Lib.hid (show sameC a b true = (((smallN a : Nat) : Int) == ((smallN b : Nat) : Int)) by unfold sameC; rw [small_byte a b h1 h2, Bool.true_and])
        have w1 := wrap_u8 a h1
        have w2 := wrap_u8 b h2
        have W1 := Lib.hid w1
        have W2 := Lib.hid w2
        clear hq w1 w2
        go_enter Tryd.func36, Tryd.ntmps36
        go_wp2_with fail
        refine (ref_Small a (by omega) _).mono ?_
        rintro e w1 ⟨rfl, rfl⟩
        go_wp2_with fail
        refine (ref_Small b (by omega) _).mono ?_
        rintro e w1 ⟨rfl, rfl⟩
        generalize smallN a = x at *
        generalize smallN b = y at *
        go_wp2_with fail
        go_ret
        exact ⟨ret_bool hv.out.symm, rfl⟩
      · have hv := Lib.hid (show sameC a b true = decide (a = b) by unfold sameC; rw [Bool.true_and, ← small_great a b (by omega)])
        have HQ := Lib.hid hq
        clear hq
        have h2' : 127 < b := by omega
        clear h2
        go_enter Tryd.func36, Tryd.ntmps36
        go_wp2_with fail
        go_ret
        exact ⟨ret_bool (by rw [hv.out]; exact HQ.out), rfl⟩
    · have hv := Lib.hid (show sameC a b true = decide (a = b) by unfold sameC; rw [Bool.true_and, ← small_great a b (by omega)])
      have HQ := Lib.hid hq
      clear hq
      have h1' : 127 < a := by omega
      clear h1
      go_enter Tryd.func36, Tryd.ntmps36
      go_wp2_with fail
      go_ret
      exact ⟨ret_bool (by rw [hv.out]; exact HQ.out), rfl⟩
end Go.Proofs.YtlnnimmiifdnnaaDoor
