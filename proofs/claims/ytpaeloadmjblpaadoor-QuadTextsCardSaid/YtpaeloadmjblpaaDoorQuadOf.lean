/- quad.Of, quad.Number. -/
import Derived.Test.YtpaeloadmjblpaaDoorKit
import Derived.Handy
namespace Go.Proofs.YtpaeloadmjblpaaDoor
open Go.RowKit

/-- An address as a value: four bytes. -/
def v4 (a b c d : Int) : Value := .agg #[.int .u8 a, .int .u8 b, .int .u8 c, .int .u8 d]
/-- The address of a number. -/
def v4N (n : Nat) : Value := v4 (n / 16777216 % 256 : Nat) (n / 65536 % 256 : Nat) (n / 256 % 256 : Nat) (n % 256 : Nat)
set_option maxHeartbeats 1600000 in
set_option maxRecDepth 100000 in
theorem quad_Of (n : Nat) (hn : n < 4294967296) (w : World) : Calls Tryd.prog 7 #[.int .u32 (n : Int)] w fun e w' => e = .returned (v4N n) ∧ Below w.heap.size w w' := by
  go_enter Tryd.func7, Tryd.ntmps7
  go_wp2_with fail
  go_rounds 5
  go_returns
  refine ⟨?_, (Below.refl _ _).alloc (Nat.le_refl _) _⟩
  unfold v4N v4
  have e1 : (n : Int) / 256 / 256 / 256 = ((n / 16777216 % 256 : Nat) : Int) := by omega
  have e2 : (n : Int) / 256 / 256 % 256 = ((n / 65536 % 256 : Nat) : Int) := by omega
  have e3 : (n : Int) / 256 % 256 = ((n / 256 % 256 : Nat) : Int) := by omega
  have e4 : (n : Int) % 256 = ((n % 256 : Nat) : Int) := by omega
  rw [e1, e2, e3, e4]
theorem or_byte32 (m d : Nat) (hm : m < 16777216) (hd : d < 256) : bits .or .u32 ((m : Int) * 256 % 4294967296) (d : Int) = ((m * 256 + d : Nat) : Int) := by
  have e1 : (m : Int) * 256 % 4294967296 = ((m * 256 : Nat) : Int) := by omega
  have h1 : (BitVec.ofInt 32 ((m * 256 : Nat) : Int)).toNat = m * 256 := by rw [BitVec.toNat_ofInt]; omega
  have h2 : (BitVec.ofInt 32 (d : Int)).toNat = d := by rw [BitVec.toNat_ofInt]; omega
  have h3 : m * 256 ||| d = m * 256 + d := by
    have := Nat.shiftLeft_add_eq_or_of_lt (i := 8) (b := d) hd m
    rw [Nat.shiftLeft_eq] at this
    exact this.symm
  rw [e1]
  show IntKind.u32.wrap ((BitVec.ofInt 32 ((m * 256 : Nat) : Int) ||| BitVec.ofInt 32 (d : Int)).toNat : Int) = _
  rw [BitVec.toNat_or, h1, h2, h3, IntKind.wrap_u32]
  omega
theorem or_byte0 (d : Nat) (hd : d < 256) : bits .or .u32 0 (d : Int) = (d : Int) := by
  have := or_byte32 0 d (by omega) hd
  simpa using this
set_option maxHeartbeats 1600000 in
set_option maxRecDepth 100000 in
theorem quad_Number (a b c d : Nat) (ha : a < 256) (hb : b < 256) (hc : c < 256) (hd : d < 256) (w : World) : Calls Tryd.prog 8 #[v4 a b c d] w fun e w' => e = .returned (.int .u32 ((((a * 256 + b) * 256 + c) * 256 + d : Nat) : Int)) ∧ Below w.heap.size w w' := by
  unfold v4
  have x0 : ∀ W : World, (Instr.index 25 (.agg #[.int .u8 (a : Int), .int .u8 (b : Int), .int .u8 (c : Int), .int .u8 (d : Int)]) (.int .i64 0)).run Tryd.prog W = .ok (.int .u8 (a : Int)) W := fun W => by kernel_rfl
  have x1 : ∀ W : World, (Instr.index 25 (.agg #[.int .u8 (a : Int), .int .u8 (b : Int), .int .u8 (c : Int), .int .u8 (d : Int)]) (.int .i64 1)).run Tryd.prog W = .ok (.int .u8 (b : Int)) W := fun W => by kernel_rfl
  have x2 : ∀ W : World, (Instr.index 25 (.agg #[.int .u8 (a : Int), .int .u8 (b : Int), .int .u8 (c : Int), .int .u8 (d : Int)]) (.int .i64 2)).run Tryd.prog W = .ok (.int .u8 (c : Int)) W := fun W => by kernel_rfl
  have x3 : ∀ W : World, (Instr.index 25 (.agg #[.int .u8 (a : Int), .int .u8 (b : Int), .int .u8 (c : Int), .int .u8 (d : Int)]) (.int .i64 3)).run Tryd.prog W = .ok (.int .u8 (d : Int)) W := fun W => by kernel_rfl
  go_enter Tryd.func8, Tryd.ntmps8
  go_wp2_with fail
  go_rounds 5
  go_returns
  refine ⟨?_, (Below.refl _ _).alloc (Nat.le_refl _) _⟩
  have b1 := or_byte0 a ha
  have b2 := or_byte32 a b (by omega) hb
  have b3 := or_byte32 (a * 256 + b) c (by omega) hc
  have b4 := or_byte32 ((a * 256 + b) * 256 + c) d (by omega) hd
  simp only [b1, b2, b3, b4]
  rfl
end Go.Proofs.YtpaeloadmjblpaaDoor
