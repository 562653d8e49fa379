/- Which characters may stand in a label. -/
import Derived.Test.YtbonnmkkacplgaaGreatDoorLabelNamesM1
import Derived.Test.YtbonnmkkacplgaaGreatDoorShelf

namespace Go.Proofs.YtbonnmkkacplgaaGreatDoor
open Go.RowKit

def inSpan (c : Int) : Prop := (223 ≤ c ∧ c ≤ 246) ∨ (248 ≤ c ∧ c ≤ 8191) ∨ (11264 ≤ c ∧ c ≤ 12287) ∨ (12293 ≤ c ∧ c ≤ 55295) ∨ (63744 ≤ c ∧ c ≤ 64975) ∨ (65008 ≤ c ∧ c ≤ 65023) ∨ (65536 ≤ c ∧ c ≤ 262143)
instance (c : Int) : Decidable (inSpan c) := by unfold inSpan; infer_instance
/-- May a character from 128 on stand in a label? -/
def charZ (c : Int) : Bool := decide (inSpan c ∧ c % 65536 < 65534)
theorem and_fffe (n : Nat) : n &&& 65534 = 2 * (n / 2 % 32768) := by
  have h1 : (n &&& 65534) / 2 = n / 2 % 32768 := by
    rw [Nat.and_div_two]
    exact Nat.and_two_pow_sub_one_eq_mod (n / 2) 15
  have h2 : (n &&& 65534) % 2 = 0 := by
    have := Nat.and_mod_two_pow (a := n) (b := 65534) (n := 1)
    simpa using this
  omega
theorem bits_fffe (n : Nat) (h : n < 2147483648) : bits .and .i64 (n : Int) 65534 = ((2 * (n / 2 % 32768) : Nat) : Int) := by
  show IntKind.i64.wrap ((BitVec.ofInt 64 (n : Int) &&& BitVec.ofInt 64 65534).toNat : Int) = _
  have e : (BitVec.ofInt 64 (n : Int) &&& BitVec.ofInt 64 65534).toNat = n &&& 65534 := by
    rw [BitVec.toNat_and]
    congr 1
    rw [BitVec.ofInt_natCast, BitVec.toNat_ofNat]
    exact Nat.mod_eq_of_lt (by omega)
  rw [e, and_fffe]
  exact IntWalk.i64_in _ ⟨by omega, by omega⟩
theorem char_in {c : Int} (h : inSpan c) : charZ c = (bits .and .i64 c 65534 != 65534) := by
  obtain ⟨n, rfl⟩ : ∃ n : Nat, c = n := ⟨c.toNat, by unfold inSpan at h; omega⟩
  have hn : n ≤ 262143 := by unfold inSpan at h; omega
  rw [bits_fffe n (by omega)]
  unfold charZ
  by_cases h2 : (n : Int) % 65536 < 65534
  · rw [decide_eq_true ⟨h, h2⟩]
    symm
    rw [bne_iff_ne]
    omega
  · rw [decide_eq_false (fun hh => h2 hh.2)]
    symm
    rw [bne_eq_false_iff_eq]
    omega
theorem char_out {c : Int} (h : ¬ inSpan c) : charZ c = false := decide_eq_false fun hh => h hh.1
set_option maxHeartbeats 12800000 in
set_option maxRecDepth 100000 in
theorem label_Char (c : Int) (w : World) (hS : SpanLaid w) (h1 : -9223372036854775808 ≤ c) (h2 : c ≤ 9223372036854775807) :
    Calls Tryz.prog 16 #[.int .i64 c] w fun e w' => e = .returned (.bool (charZ c)) ∧ Below w.heap.size w w' := by
  have c0 : w.cell? ⟨0, 0, none⟩ = some (.int .i64 223) := hS 0 (by decide)
  have c1 : w.cell? ⟨0, 1, none⟩ = some (.int .i64 246) := hS 1 (by decide)
  have c2 : w.cell? ⟨0, 2, none⟩ = some (.int .i64 248) := hS 2 (by decide)
  have c3 : w.cell? ⟨0, 3, none⟩ = some (.int .i64 8191) := hS 3 (by decide)
  have c4 : w.cell? ⟨0, 4, none⟩ = some (.int .i64 11264) := hS 4 (by decide)
  have c5 : w.cell? ⟨0, 5, none⟩ = some (.int .i64 12287) := hS 5 (by decide)
  have c6 : w.cell? ⟨0, 6, none⟩ = some (.int .i64 12293) := hS 6 (by decide)
  have c7 : w.cell? ⟨0, 7, none⟩ = some (.int .i64 55295) := hS 7 (by decide)
  have c8 : w.cell? ⟨0, 8, none⟩ = some (.int .i64 63744) := hS 8 (by decide)
  have c9 : w.cell? ⟨0, 9, none⟩ = some (.int .i64 64975) := hS 9 (by decide)
  have c10 : w.cell? ⟨0, 10, none⟩ = some (.int .i64 65008) := hS 10 (by decide)
  have c11 : w.cell? ⟨0, 11, none⟩ = some (.int .i64 65023) := hS 11 (by decide)
  have c12 : w.cell? ⟨0, 12, none⟩ = some (.int .i64 65536) := hS 12 (by decide)
  have c13 : w.cell? ⟨0, 13, none⟩ = some (.int .i64 262143) := hS 13 (by decide)
  have x0 : ∀ W : World, (Instr.index 67 (.agg #[.int .i64 223, .int .i64 246, .int .i64 248, .int .i64 8191, .int .i64 11264, .int .i64 12287, .int .i64 12293, .int .i64 55295, .int .i64 63744, .int .i64 64975, .int .i64 65008, .int .i64 65023, .int .i64 65536, .int .i64 262143]) (.int .i64 0)).run Tryz.prog W = .ok (.agg #[.int .i64 223, .int .i64 246]) W := fun W => by kernel_rfl
  have x1 : ∀ W : World, (Instr.index 67 (.agg #[.int .i64 223, .int .i64 246, .int .i64 248, .int .i64 8191, .int .i64 11264, .int .i64 12287, .int .i64 12293, .int .i64 55295, .int .i64 63744, .int .i64 64975, .int .i64 65008, .int .i64 65023, .int .i64 65536, .int .i64 262143]) (.int .i64 1)).run Tryz.prog W = .ok (.agg #[.int .i64 248, .int .i64 8191]) W := fun W => by kernel_rfl
  have x2 : ∀ W : World, (Instr.index 67 (.agg #[.int .i64 223, .int .i64 246, .int .i64 248, .int .i64 8191, .int .i64 11264, .int .i64 12287, .int .i64 12293, .int .i64 55295, .int .i64 63744, .int .i64 64975, .int .i64 65008, .int .i64 65023, .int .i64 65536, .int .i64 262143]) (.int .i64 2)).run Tryz.prog W = .ok (.agg #[.int .i64 11264, .int .i64 12287]) W := fun W => by kernel_rfl
  have x3 : ∀ W : World, (Instr.index 67 (.agg #[.int .i64 223, .int .i64 246, .int .i64 248, .int .i64 8191, .int .i64 11264, .int .i64 12287, .int .i64 12293, .int .i64 55295, .int .i64 63744, .int .i64 64975, .int .i64 65008, .int .i64 65023, .int .i64 65536, .int .i64 262143]) (.int .i64 3)).run Tryz.prog W = .ok (.agg #[.int .i64 12293, .int .i64 55295]) W := fun W => by kernel_rfl
  have x4 : ∀ W : World, (Instr.index 67 (.agg #[.int .i64 223, .int .i64 246, .int .i64 248, .int .i64 8191, .int .i64 11264, .int .i64 12287, .int .i64 12293, .int .i64 55295, .int .i64 63744, .int .i64 64975, .int .i64 65008, .int .i64 65023, .int .i64 65536, .int .i64 262143]) (.int .i64 4)).run Tryz.prog W = .ok (.agg #[.int .i64 63744, .int .i64 64975]) W := fun W => by kernel_rfl
  have x5 : ∀ W : World, (Instr.index 67 (.agg #[.int .i64 223, .int .i64 246, .int .i64 248, .int .i64 8191, .int .i64 11264, .int .i64 12287, .int .i64 12293, .int .i64 55295, .int .i64 63744, .int .i64 64975, .int .i64 65008, .int .i64 65023, .int .i64 65536, .int .i64 262143]) (.int .i64 5)).run Tryz.prog W = .ok (.agg #[.int .i64 65008, .int .i64 65023]) W := fun W => by kernel_rfl
  have x6 : ∀ W : World, (Instr.index 67 (.agg #[.int .i64 223, .int .i64 246, .int .i64 248, .int .i64 8191, .int .i64 11264, .int .i64 12287, .int .i64 12293, .int .i64 55295, .int .i64 63744, .int .i64 64975, .int .i64 65008, .int .i64 65023, .int .i64 65536, .int .i64 262143]) (.int .i64 6)).run Tryz.prog W = .ok (.agg #[.int .i64 65536, .int .i64 262143]) W := fun W => by kernel_rfl
  have hin := fun h => char_in (c := c) h
  have hout := fun h => char_out (c := c) h
  have HIN := Lib.hid hin
  have HOUT := Lib.hid hout
  clear hin hout hS
  go_enter Tryz.func16, Tryz.ntmps16
  go_wp2_with fail
  refine wp_loop_rounds 8 ?_
  by_cases a0 : c ≥ 223
  rotate_left
  · have HV := Lib.hid (HOUT.out (by unfold inSpan; omega))
    have n1 : ¬ c ≥ 248 := by omega
    have n2 : ¬ c ≥ 11264 := by omega
    have n3 : ¬ c ≥ 12293 := by omega
    have n4 : ¬ c ≥ 63744 := by omega
    have n5 : ¬ c ≥ 65008 := by omega
    have n6 : ¬ c ≥ 65536 := by omega
    rw [rounds_succ]
    go_wp2_with fail
    rw [rounds_succ]
    go_wp2_with fail
    rw [rounds_succ]
    go_wp2_with fail
    rw [rounds_succ]
    go_wp2_with fail
    rw [rounds_succ]
    go_wp2_with fail
    rw [rounds_succ]
    go_wp2_with fail
    rw [rounds_succ]
    go_wp2_with fail
    rw [rounds_succ]
    go_wp2_with fail
    go_ret
    exact ⟨ret_bool HV.out.symm, ((((((((Below.refl _ _).alloc (by first | exact Nat.le_refl _ | (simp; done) | (simp; omega)) _).alloc (by first | exact Nat.le_refl _ | (simp; done) | (simp; omega)) _).alloc (by first | exact Nat.le_refl _ | (simp; done) | (simp; omega)) _).alloc (by first | exact Nat.le_refl _ | (simp; done) | (simp; omega)) _).alloc (by first | exact Nat.le_refl _ | (simp; done) | (simp; omega)) _).alloc (by first | exact Nat.le_refl _ | (simp; done) | (simp; omega)) _).alloc (by first | exact Nat.le_refl _ | (simp; done) | (simp; omega)) _)⟩
  by_cases b0 : c ≤ 246
  · have HV := Lib.hid (HIN.out (by unfold inSpan; omega))
    rw [rounds_succ]
    go_wp2_with fail
    go_ret
    exact ⟨ret_bool HV.out.symm, ((Below.refl _ _).alloc (by first | exact Nat.le_refl _ | (simp; done) | (simp; omega)) _)⟩
  rw [rounds_succ]
  go_wp2_with fail
  by_cases a1 : c ≥ 248
  rotate_left
  · have HV := Lib.hid (HOUT.out (by unfold inSpan; omega))
    have n2 : ¬ c ≥ 11264 := by omega
    have n3 : ¬ c ≥ 12293 := by omega
    have n4 : ¬ c ≥ 63744 := by omega
    have n5 : ¬ c ≥ 65008 := by omega
    have n6 : ¬ c ≥ 65536 := by omega
    rw [rounds_succ]
    go_wp2_with fail
    rw [rounds_succ]
    go_wp2_with fail
    rw [rounds_succ]
    go_wp2_with fail
    rw [rounds_succ]
    go_wp2_with fail
    rw [rounds_succ]
    go_wp2_with fail
    rw [rounds_succ]
    go_wp2_with fail
    rw [rounds_succ]
    go_wp2_with fail
    go_ret
    exact ⟨ret_bool HV.out.symm, ((((((((Below.refl _ _).alloc (by first | exact Nat.le_refl _ | (simp; done) | (simp; omega)) _).alloc (by first | exact Nat.le_refl _ | (simp; done) | (simp; omega)) _).alloc (by first | exact Nat.le_refl _ | (simp; done) | (simp; omega)) _).alloc (by first | exact Nat.le_refl _ | (simp; done) | (simp; omega)) _).alloc (by first | exact Nat.le_refl _ | (simp; done) | (simp; omega)) _).alloc (by first | exact Nat.le_refl _ | (simp; done) | (simp; omega)) _).alloc (by first | exact Nat.le_refl _ | (simp; done) | (simp; omega)) _)⟩
  by_cases b1 : c ≤ 8191
  · have HV := Lib.hid (HIN.out (by unfold inSpan; omega))
    rw [rounds_succ]
    go_wp2_with fail
    go_ret
    exact ⟨ret_bool HV.out.symm, (((Below.refl _ _).alloc (by first | exact Nat.le_refl _ | (simp; done) | (simp; omega)) _).alloc (by first | exact Nat.le_refl _ | (simp; done) | (simp; omega)) _)⟩
  rw [rounds_succ]
  go_wp2_with fail
  by_cases a2 : c ≥ 11264
  rotate_left
  · have HV := Lib.hid (HOUT.out (by unfold inSpan; omega))
    have n3 : ¬ c ≥ 12293 := by omega
    have n4 : ¬ c ≥ 63744 := by omega
    have n5 : ¬ c ≥ 65008 := by omega
    have n6 : ¬ c ≥ 65536 := by omega
    rw [rounds_succ]
    go_wp2_with fail
    rw [rounds_succ]
    go_wp2_with fail
    rw [rounds_succ]
    go_wp2_with fail
    rw [rounds_succ]
    go_wp2_with fail
    rw [rounds_succ]
    go_wp2_with fail
    rw [rounds_succ]
    go_wp2_with fail
    go_ret
    exact ⟨ret_bool HV.out.symm, ((((((((Below.refl _ _).alloc (by first | exact Nat.le_refl _ | (simp; done) | (simp; omega)) _).alloc (by first | exact Nat.le_refl _ | (simp; done) | (simp; omega)) _).alloc (by first | exact Nat.le_refl _ | (simp; done) | (simp; omega)) _).alloc (by first | exact Nat.le_refl _ | (simp; done) | (simp; omega)) _).alloc (by first | exact Nat.le_refl _ | (simp; done) | (simp; omega)) _).alloc (by first | exact Nat.le_refl _ | (simp; done) | (simp; omega)) _).alloc (by first | exact Nat.le_refl _ | (simp; done) | (simp; omega)) _)⟩
  by_cases b2 : c ≤ 12287
  · have HV := Lib.hid (HIN.out (by unfold inSpan; omega))
    rw [rounds_succ]
    go_wp2_with fail
    go_ret
    exact ⟨ret_bool HV.out.symm, ((((Below.refl _ _).alloc (by first | exact Nat.le_refl _ | (simp; done) | (simp; omega)) _).alloc (by first | exact Nat.le_refl _ | (simp; done) | (simp; omega)) _).alloc (by first | exact Nat.le_refl _ | (simp; done) | (simp; omega)) _)⟩
  rw [rounds_succ]
  go_wp2_with fail
  by_cases a3 : c ≥ 12293
  rotate_left
  · have HV := Lib.hid (HOUT.out (by unfold inSpan; omega))
    have n4 : ¬ c ≥ 63744 := by omega
    have n5 : ¬ c ≥ 65008 := by omega
    have n6 : ¬ c ≥ 65536 := by omega
    rw [rounds_succ]
    go_wp2_with fail
    rw [rounds_succ]
    go_wp2_with fail
    rw [rounds_succ]
    go_wp2_with fail
    rw [rounds_succ]
    go_wp2_with fail
    rw [rounds_succ]
    go_wp2_with fail
    go_ret
    exact ⟨ret_bool HV.out.symm, ((((((((Below.refl _ _).alloc (by first | exact Nat.le_refl _ | (simp; done) | (simp; omega)) _).alloc (by first | exact Nat.le_refl _ | (simp; done) | (simp; omega)) _).alloc (by first | exact Nat.le_refl _ | (simp; done) | (simp; omega)) _).alloc (by first | exact Nat.le_refl _ | (simp; done) | (simp; omega)) _).alloc (by first | exact Nat.le_refl _ | (simp; done) | (simp; omega)) _).alloc (by first | exact Nat.le_refl _ | (simp; done) | (simp; omega)) _).alloc (by first | exact Nat.le_refl _ | (simp; done) | (simp; omega)) _)⟩
  by_cases b3 : c ≤ 55295
  · have HV := Lib.hid (HIN.out (by unfold inSpan; omega))
    rw [rounds_succ]
    go_wp2_with fail
    go_ret
    exact ⟨ret_bool HV.out.symm, (((((Below.refl _ _).alloc (by first | exact Nat.le_refl _ | (simp; done) | (simp; omega)) _).alloc (by first | exact Nat.le_refl _ | (simp; done) | (simp; omega)) _).alloc (by first | exact Nat.le_refl _ | (simp; done) | (simp; omega)) _).alloc (by first | exact Nat.le_refl _ | (simp; done) | (simp; omega)) _)⟩
  rw [rounds_succ]
  go_wp2_with fail
  by_cases a4 : c ≥ 63744
  rotate_left
  · have HV := Lib.hid (HOUT.out (by unfold inSpan; omega))
    have n5 : ¬ c ≥ 65008 := by omega
    have n6 : ¬ c ≥ 65536 := by omega
    rw [rounds_succ]
    go_wp2_with fail
    rw [rounds_succ]
    go_wp2_with fail
    rw [rounds_succ]
    go_wp2_with fail
    rw [rounds_succ]
    go_wp2_with fail
    go_ret
    exact ⟨ret_bool HV.out.symm, ((((((((Below.refl _ _).alloc (by first | exact Nat.le_refl _ | (simp; done) | (simp; omega)) _).alloc (by first | exact Nat.le_refl _ | (simp; done) | (simp; omega)) _).alloc (by first | exact Nat.le_refl _ | (simp; done) | (simp; omega)) _).alloc (by first | exact Nat.le_refl _ | (simp; done) | (simp; omega)) _).alloc (by first | exact Nat.le_refl _ | (simp; done) | (simp; omega)) _).alloc (by first | exact Nat.le_refl _ | (simp; done) | (simp; omega)) _).alloc (by first | exact Nat.le_refl _ | (simp; done) | (simp; omega)) _)⟩
  by_cases b4 : c ≤ 64975
  · have HV := Lib.hid (HIN.out (by unfold inSpan; omega))
    rw [rounds_succ]
    go_wp2_with fail
    go_ret
    exact ⟨ret_bool HV.out.symm, ((((((Below.refl _ _).alloc (by first | exact Nat.le_refl _ | (simp; done) | (simp; omega)) _).alloc (by first | exact Nat.le_refl _ | (simp; done) | (simp; omega)) _).alloc (by first | exact Nat.le_refl _ | (simp; done) | (simp; omega)) _).alloc (by first | exact Nat.le_refl _ | (simp; done) | (simp; omega)) _).alloc (by first | exact Nat.le_refl _ | (simp; done) | (simp; omega)) _)⟩
  rw [rounds_succ]
  go_wp2_with fail
  by_cases a5 : c ≥ 65008
  rotate_left
  · have HV := Lib.hid (HOUT.out (by unfold inSpan; omega))
    have n6 : ¬ c ≥ 65536 := by omega
    rw [rounds_succ]
    go_wp2_with fail
    rw [rounds_succ]
    go_wp2_with fail
    rw [rounds_succ]
    go_wp2_with fail
    go_ret
    exact ⟨ret_bool HV.out.symm, ((((((((Below.refl _ _).alloc (by first | exact Nat.le_refl _ | (simp; done) | (simp; omega)) _).alloc (by first | exact Nat.le_refl _ | (simp; done) | (simp; omega)) _).alloc (by first | exact Nat.le_refl _ | (simp; done) | (simp; omega)) _).alloc (by first | exact Nat.le_refl _ | (simp; done) | (simp; omega)) _).alloc (by first | exact Nat.le_refl _ | (simp; done) | (simp; omega)) _).alloc (by first | exact Nat.le_refl _ | (simp; done) | (simp; omega)) _).alloc (by first | exact Nat.le_refl _ | (simp; done) | (simp; omega)) _)⟩
  by_cases b5 : c ≤ 65023
  · have HV := Lib.hid (HIN.out (by unfold inSpan; omega))
    rw [rounds_succ]
    go_wp2_with fail
    go_ret
    exact ⟨ret_bool HV.out.symm, (((((((Below.refl _ _).alloc (by first | exact Nat.le_refl _ | (simp; done) | (simp; omega)) _).alloc (by first | exact Nat.le_refl _ | (simp; done) | (simp; omega)) _).alloc (by first | exact Nat.le_refl _ | (simp; done) | (simp; omega)) _).alloc (by first | exact Nat.le_refl _ | (simp; done) | (simp; omega)) _).alloc (by first | exact Nat.le_refl _ | (simp; done) | (simp; omega)) _).alloc (by first | exact Nat.le_refl _ | (simp; done) | (simp; omega)) _)⟩
  rw [rounds_succ]
  go_wp2_with fail
  by_cases a6 : c ≥ 65536
  rotate_left
  · have HV := Lib.hid (HOUT.out (by unfold inSpan; omega))
    rw [rounds_succ]
    go_wp2_with fail
    rw [rounds_succ]
    go_wp2_with fail
    go_ret
    exact ⟨ret_bool HV.out.symm, ((((((((Below.refl _ _).alloc (by first | exact Nat.le_refl _ | (simp; done) | (simp; omega)) _).alloc (by first | exact Nat.le_refl _ | (simp; done) | (simp; omega)) _).alloc (by first | exact Nat.le_refl _ | (simp; done) | (simp; omega)) _).alloc (by first | exact Nat.le_refl _ | (simp; done) | (simp; omega)) _).alloc (by first | exact Nat.le_refl _ | (simp; done) | (simp; omega)) _).alloc (by first | exact Nat.le_refl _ | (simp; done) | (simp; omega)) _).alloc (by first | exact Nat.le_refl _ | (simp; done) | (simp; omega)) _)⟩
  by_cases b6 : c ≤ 262143
  · have HV := Lib.hid (HIN.out (by unfold inSpan; omega))
    rw [rounds_succ]
    go_wp2_with fail
    go_ret
    exact ⟨ret_bool HV.out.symm, ((((((((Below.refl _ _).alloc (by first | exact Nat.le_refl _ | (simp; done) | (simp; omega)) _).alloc (by first | exact Nat.le_refl _ | (simp; done) | (simp; omega)) _).alloc (by first | exact Nat.le_refl _ | (simp; done) | (simp; omega)) _).alloc (by first | exact Nat.le_refl _ | (simp; done) | (simp; omega)) _).alloc (by first | exact Nat.le_refl _ | (simp; done) | (simp; omega)) _).alloc (by first | exact Nat.le_refl _ | (simp; done) | (simp; omega)) _).alloc (by first | exact Nat.le_refl _ | (simp; done) | (simp; omega)) _)⟩
  rw [rounds_succ]
  go_wp2_with fail
  have HV := Lib.hid (HOUT.out (by unfold inSpan; omega))
  rw [rounds_succ]
  go_wp2_with fail
  go_ret
  exact ⟨ret_bool HV.out.symm, ((((((((Below.refl _ _).alloc (by first | exact Nat.le_refl _ | (simp; done) | (simp; omega)) _).alloc (by first | exact Nat.le_refl _ | (simp; done) | (simp; omega)) _).alloc (by first | exact Nat.le_refl _ | (simp; done) | (simp; omega)) _).alloc (by first | exact Nat.le_refl _ | (simp; done) | (simp; omega)) _).alloc (by first | exact Nat.le_refl _ | (simp; done) | (simp; omega)) _).alloc (by first | exact Nat.le_refl _ | (simp; done) | (simp; omega)) _).alloc (by first | exact Nat.le_refl _ | (simp; done) | (simp; omega)) _)⟩
end Go.Proofs.YtbonnmkkacplgaaGreatDoor

/- Characters as letters and digits, in plain words: the bias, a number's digits, the encoding. -/
namespace Go.Proofs.YtbonnmkkacplgaaGreatDoor

def adaptL : Nat → Nat → Nat → Nat
  | 0, d, k => k + 36 * d / (d + 38)
  | f + 1, d, k => if 455 < d then adaptL f (d / 35) (k + 36) else k + 36 * d / (d + 38)
theorem adaptL_go {f d k : Nat} (h : 455 < d) : adaptL (f + 1) d k = adaptL f (d / 35) (k + 36) := by rw [adaptL, if_pos h]
theorem adaptL_end {f d k : Nat} (h : ¬ 455 < d) : adaptL f d k = k + 36 * d / (d + 38) := by
  cases f with
  | zero => rfl
  | succ f => rw [adaptL, if_neg h]
theorem adaptL_le : ∀ (f d k : Nat), adaptL f d k ≤ k + 36 * d + 36 := by
  have hb : ∀ d k, k + 36 * d / (d + 38) ≤ k + 36 * d + 36 := fun d k => by
    have : 36 * d / (d + 38) ≤ 36 * d := Nat.div_le_self _ _
    omega
  intro f
  induction f with
  | zero => intro d k; exact hb d k
  | succ f ih =>
    intro d k
    by_cases h : 455 < d
    · rw [adaptL_go h]
      have := ih (d / 35) (k + 36)
      omega
    · rw [adaptL_end h]
      exact hb d k
/-- What the loop begins with. -/
def adapt0 (delta count : Nat) (first : Bool) : Nat :=
  let d0 := if first then delta / 700 else delta / 2
  d0 + d0 / count
def adaptN (delta count : Nat) (first : Bool) : Nat := adaptL (adapt0 delta count first) (adapt0 delta count first) 0
/-- The bias behind any number. -/
def adaptZ (delta count : Int) (first : Bool) : Int := if delta < 0 ∨ count < 1 then 0 else (adaptN delta.toNat count.toNat first : Int)
theorem adapt0_le (delta count : Nat) (first : Bool) : adapt0 delta count first ≤ delta := by
  unfold adapt0
  have h1 : ∀ x, x / count ≤ x := fun x => Nat.div_le_self _ _
  cases first
  · have := h1 (delta / 2); simp; omega
  · have := h1 (delta / 700); simp; omega
theorem adaptN_le (delta count : Nat) (first : Bool) : adaptN delta count first ≤ 36 * delta + 36 := by
  have h1 := adapt0_le delta count first
  have h2 := adaptL_le (adapt0 delta count first) (adapt0 delta count first) 0
  unfold adaptN
  omega
def thrN (k b : Nat) : Nat := min (max (k - b) 1) 26
theorem thrN_range (k b : Nat) : 1 ≤ thrN k b ∧ thrN k b ≤ 26 := by unfold thrN; omega
def digN (n : Nat) : UInt8 := if n < 26 then UInt8.ofNat (97 + n) else UInt8.ofNat (22 + n)
/-- A number's digits, from a place on. -/
def numL : Nat → Nat → Nat → Nat → List UInt8
  | 0, n, _, _ => [digN n]
  | f + 1, n, k, b => if n < thrN k b then [digN n] else digN (thrN k b + (n - thrN k b) % (36 - thrN k b)) :: numL f ((n - thrN k b) / (36 - thrN k b)) (k + 36) b
theorem numL_last {f n k b : Nat} (h : n < thrN k b) : numL f n k b = [digN n] := by
  cases f with
  | zero => rfl
  | succ f => rw [numL, if_pos h]
theorem numL_more {f n k b : Nat} (h : ¬ n < thrN k b) : numL (f + 1) n k b = digN (thrN k b + (n - thrN k b) % (36 - thrN k b)) :: numL f ((n - thrN k b) / (36 - thrN k b)) (k + 36) b := by
  rw [numL, if_neg h]
theorem num_less {n k b : Nat} (h : ¬ n < thrN k b) : (n - thrN k b) / (36 - thrN k b) < n ∧ 10 * ((n - thrN k b) / (36 - thrN k b)) ≤ n := by
  have ht := thrN_range k b
  have h1 : (n - thrN k b) / (36 - thrN k b) ≤ (n - thrN k b) / 10 := Nat.div_le_div_left (by omega) (by omega)
  omega
theorem numL_len : ∀ (e f n k b : Nat), n < 10 ^ e → (numL f n k b).length ≤ e + 1 := by
  intro e
  induction e with
  | zero =>
    intro f n k b h
    have h0 : n = 0 := by simp at h; exact h
    subst h0
    rw [numL_last (by have := thrN_range k b; omega)]
    simp
  | succ e ih =>
    intro f n k b h
    by_cases hn : n < thrN k b
    · rw [numL_last hn]; simp
    · cases f with
      | zero => rw [numL]; simp
      | succ f =>
        rw [numL_more hn]
        have h2 := (num_less hn).2
        have := ih f ((n - thrN k b) / (36 - thrN k b)) (k + 36) b (by rw [Nat.pow_succ] at h; omega)
        simp only [List.length_cons]
        omega
def numD (n b : Nat) : List UInt8 := numL n n 36 b
theorem numD_len {n b : Nat} (h : n < 1000000000) : (numD n b).length ≤ 10 := numL_len 9 n n 36 b (by simpa using h)

/-- How far the encoding has come. -/
structure PSt where
  delta : Nat
  bias : Nat
  h : Nat
  out : List UInt8
/-- One character, where m is the least of those that aren't told. -/
def stepC (m basic : Nat) (s : PSt) (c : Nat) : PSt :=
  if c < m then ⟨s.delta + 1, s.bias, s.h, s.out⟩
  else if c = m then ⟨0, adaptN s.delta (s.h + 1) (decide (s.h = basic)), s.h + 1, s.out ++ numD s.delta s.bias⟩
  else s
def roundC (cs : List Nat) (basic m n : Nat) (s : PSt) : PSt := cs.foldl (stepC m basic) ⟨s.delta + (m - n) * (s.h + 1), s.bias, s.h, s.out⟩
def nextC (s : PSt) : PSt := ⟨s.delta + 1, s.bias, s.h, s.out⟩
def encR (cs : List Nat) (basic : Nat) : List Nat → Nat → PSt → PSt
  | [], _, s => s
  | m :: ms, n, s => encR cs basic ms (m + 1) (nextC (roundC cs basic m n s))
def insU (c : Nat) : List Nat → List Nat
  | [] => [c]
  | x :: l => if c < x then c :: x :: l else if c = x then x :: l else x :: insU c l
/-- The characters from 128 on, each once, from the least to the greatest. -/
def markL (cs : List Nat) : List Nat := cs.foldr (fun c l => if c < 128 then l else insU c l) []
def basicL (cs : List Nat) : List UInt8 := (cs.filter fun c => decide (c < 128)).map UInt8.ofNat
def basicO (cs : List Nat) : List UInt8 := if (basicL cs).length = 0 then [] else basicL cs ++ [45]
def encN (cs : List Nat) : List UInt8 := (encR cs (basicL cs).length (markL cs) 128 ⟨0, 72, (basicL cs).length, basicO cs⟩).out
theorem sp09 : encN [98, 252, 99, 104, 101, 114] = [98, 99, 104, 101, 114, 45, 107, 118, 97] := by decide +kernel

theorem insU_mem (c : Nat) : ∀ (l : List Nat) (x : Nat), x ∈ insU c l ↔ x = c ∨ x ∈ l := by
  intro l
  induction l with
  | nil => intro x; simp [insU]
  | cons y l ih =>
    intro x
    unfold insU
    by_cases h1 : c < y
    · rw [if_pos h1]; simp
    · rw [if_neg h1]
      by_cases h2 : c = y
      · rw [if_pos h2]; subst h2; simp
      · rw [if_neg h2, List.mem_cons, ih, List.mem_cons]
        constructor
        · rintro (h | h | h) <;> simp [h]
        · rintro (h | h | h) <;> simp [h]
theorem insU_up (c : Nat) : ∀ (l : List Nat), l.Pairwise (· < ·) → (insU c l).Pairwise (· < ·) := by
  intro l
  induction l with
  | nil => intro _; simp [insU]
  | cons y l ih =>
    intro h
    unfold insU
    have h' := List.pairwise_cons.1 h
    by_cases h1 : c < y
    · rw [if_pos h1, List.pairwise_cons]
      refine ⟨fun x hx => ?_, h⟩
      rcases List.mem_cons.1 hx with rfl | hx
      · exact h1
      · have := h'.1 x hx; omega
    · rw [if_neg h1]
      by_cases h2 : c = y
      · rw [if_pos h2]; exact h
      · rw [if_neg h2, List.pairwise_cons]
        refine ⟨fun x hx => ?_, ih h'.2⟩
        rcases (insU_mem c l x).1 hx with rfl | hx
        · omega
        · exact h'.1 x hx
theorem markL_up (cs : List Nat) : (markL cs).Pairwise (· < ·) := by
  unfold markL
  induction cs with
  | nil => simp
  | cons c cs ih =>
    rw [List.foldr_cons]
    split
    · exact ih
    · exact insU_up _ _ ih
theorem markL_mem (cs : List Nat) (x : Nat) : x ∈ markL cs ↔ x ∈ cs ∧ 128 ≤ x := by
  unfold markL
  induction cs with
  | nil => simp
  | cons c cs ih =>
    rw [List.foldr_cons]
    split
    · rename_i h
      rw [ih, List.mem_cons]
      exact ⟨fun ⟨a, b⟩ => ⟨.inr a, b⟩, fun ⟨a, b⟩ => ⟨a.resolve_left (by omega), b⟩⟩
    · rename_i h
      rw [insU_mem, ih, List.mem_cons]
      constructor
      · rintro (rfl | ⟨a, b⟩)
        · exact ⟨.inl rfl, by omega⟩
        · exact ⟨.inr a, b⟩
      · rintro ⟨rfl | a, b⟩
        · exact .inl rfl
        · exact .inr ⟨a, b⟩
theorem up_unique : ∀ (l l' : List Nat), l.Pairwise (· < ·) → l'.Pairwise (· < ·) → (∀ x, x ∈ l ↔ x ∈ l') → l = l' := by
  intro l
  induction l with
  | nil =>
    intro l' _ _ h
    cases l' with
    | nil => rfl
    | cons x l' => exact absurd ((h x).2 (by simp)) (by simp)
  | cons a l ih =>
    intro l' h1 h2 h
    cases l' with
    | nil => exact absurd ((h a).1 (by simp)) (by simp)
    | cons b l' =>
      have h1' := List.pairwise_cons.1 h1
      have h2' := List.pairwise_cons.1 h2
      have hab : a = b := by
        rcases List.mem_cons.1 ((h a).1 (by simp)) with e | e
        · exact e
        · rcases List.mem_cons.1 ((h b).2 (by simp)) with e' | e'
          · exact e'.symm
          · have := h2'.1 a e; have := h1'.1 b e'; omega
      subst hab
      congr 1
      refine ih l' h1'.2 h2'.2 fun x => ⟨fun hx => ?_, fun hx => ?_⟩
      · rcases List.mem_cons.1 ((h x).1 (by simp [hx])) with rfl | e
        · exact absurd (h1'.1 x hx) (by omega)
        · exact e
      · rcases List.mem_cons.1 ((h x).2 (by simp [hx])) with rfl | e
        · exact absurd (h2'.1 x hx) (by omega)
        · exact e

/-! ### Bounds -/
/-- How great what is kept may be. -/
def PBound (b n : Nat) (s : PSt) : Prop := s.delta ≤ 257 * n ∧ s.bias ≤ 20000000000 ∧ s.h ≤ b
theorem count_step (m basic : Nat) (s : PSt) (c : Nat) : (stepC m basic s c).delta ≤ s.delta + 1 := by
  unfold stepC
  split
  · exact Nat.le_refl _
  · split
    · exact Nat.zero_le _
    · exact Nat.le_succ _
end Go.Proofs.YtbonnmkkacplgaaGreatDoor

/- The code's ints. -/
namespace Go.Proofs.YtbonnmkkacplgaaGreatDoor
open Go.RowKit

theorem info_int : (Tryz.prog.info? 3).map (fun i => (i.zero, i.size, i.bytes)) = some (some (.int .i64 0), 1, 8) := by kernel_rfl
def intV (n : Nat) : Value := .int .i64 (n : Int)
end Go.Proofs.YtbonnmkkacplgaaGreatDoor
