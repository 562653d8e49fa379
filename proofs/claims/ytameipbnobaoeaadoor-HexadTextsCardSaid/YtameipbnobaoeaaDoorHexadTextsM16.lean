/- Arrays of eight and of sixteen, compared with themselves. -/
import Derived.Test.YtameipbnobaoeaaDoorHexadTextsM10

namespace Go.Proofs.YtameipbnobaoeaaDoor
open Go.RowKit

set_option maxHeartbeats 1600000
set_option maxRecDepth 100000
theorem equalIn_g8 (d : Nat) (hE : ∀ (a b : Int) (w : World), (Op.equalIn d 25 (.int .u16 a) (.int .u16 b)).run Tryd.prog w = .ok (a == b) w) (x0 x1 x2 x3 x4 x5 x6 x7 : Int) (w : World) : (Op.equalIn (d + 1) 26 (.agg #[.int .u16 x0, .int .u16 x1, .int .u16 x2, .int .u16 x3, .int .u16 x4, .int .u16 x5, .int .u16 x6, .int .u16 x7]) (.agg #[.int .u16 x0, .int .u16 x1, .int .u16 x2, .int .u16 x3, .int .u16 x4, .int .u16 x5, .int .u16 x6, .int .u16 x7])).run Tryd.prog w = .ok true w := by
  have h : Tryd.prog.underlying 26 = some (.array 8 25) := Tryd.underlying26
  have hz : ∀ w : World, (sizeOf 25).run Tryd.prog w = .ok 1 w := fun w => by kernel_rfl
  have q0 : ∀ (x0 x1 x2 x3 x4 x5 x6 x7 : Int) (w : World), (part 25 #[.int .u16 x0, .int .u16 x1, .int .u16 x2, .int .u16 x3, .int .u16 x4, .int .u16 x5, .int .u16 x6, .int .u16 x7] 0).run Tryd.prog w = .ok (.int .u16 x0) w := fun _ _ _ _ _ _ _ _ _ => by kernel_rfl
  have q1 : ∀ (x0 x1 x2 x3 x4 x5 x6 x7 : Int) (w : World), (part 25 #[.int .u16 x0, .int .u16 x1, .int .u16 x2, .int .u16 x3, .int .u16 x4, .int .u16 x5, .int .u16 x6, .int .u16 x7] 1).run Tryd.prog w = .ok (.int .u16 x1) w := fun _ _ _ _ _ _ _ _ _ => by kernel_rfl
  have q2 : ∀ (x0 x1 x2 x3 x4 x5 x6 x7 : Int) (w : World), (part 25 #[.int .u16 x0, .int .u16 x1, .int .u16 x2, .int .u16 x3, .int .u16 x4, .int .u16 x5, .int .u16 x6, .int .u16 x7] 2).run Tryd.prog w = .ok (.int .u16 x2) w := fun _ _ _ _ _ _ _ _ _ => by kernel_rfl
  have q3 : ∀ (x0 x1 x2 x3 x4 x5 x6 x7 : Int) (w : World), (part 25 #[.int .u16 x0, .int .u16 x1, .int .u16 x2, .int .u16 x3, .int .u16 x4, .int .u16 x5, .int .u16 x6, .int .u16 x7] 3).run Tryd.prog w = .ok (.int .u16 x3) w := fun _ _ _ _ _ _ _ _ _ => by kernel_rfl
  have q4 : ∀ (x0 x1 x2 x3 x4 x5 x6 x7 : Int) (w : World), (part 25 #[.int .u16 x0, .int .u16 x1, .int .u16 x2, .int .u16 x3, .int .u16 x4, .int .u16 x5, .int .u16 x6, .int .u16 x7] 4).run Tryd.prog w = .ok (.int .u16 x4) w := fun _ _ _ _ _ _ _ _ _ => by kernel_rfl
  have q5 : ∀ (x0 x1 x2 x3 x4 x5 x6 x7 : Int) (w : World), (part 25 #[.int .u16 x0, .int .u16 x1, .int .u16 x2, .int .u16 x3, .int .u16 x4, .int .u16 x5, .int .u16 x6, .int .u16 x7] 5).run Tryd.prog w = .ok (.int .u16 x5) w := fun _ _ _ _ _ _ _ _ _ => by kernel_rfl
  have q6 : ∀ (x0 x1 x2 x3 x4 x5 x6 x7 : Int) (w : World), (part 25 #[.int .u16 x0, .int .u16 x1, .int .u16 x2, .int .u16 x3, .int .u16 x4, .int .u16 x5, .int .u16 x6, .int .u16 x7] 6).run Tryd.prog w = .ok (.int .u16 x6) w := fun _ _ _ _ _ _ _ _ _ => by kernel_rfl
  have q7 : ∀ (x0 x1 x2 x3 x4 x5 x6 x7 : Int) (w : World), (part 25 #[.int .u16 x0, .int .u16 x1, .int .u16 x2, .int .u16 x3, .int .u16 x4, .int .u16 x5, .int .u16 x6, .int .u16 x7] 7).run Tryd.prog w = .ok (.int .u16 x7) w := fun _ _ _ _ _ _ _ _ _ => by kernel_rfl
  simp only [Op.equalIn, Sem.run_bind, run_underlying h, Result.andThen_ok, hz]
  simp only [Std.Legacy.Range.forIn_eq_forIn_range', Std.Legacy.Range.size]
  simp [List.range', hE, q0, q1, q2, q3, q4, q5, q6, q7, Sem.run_bind]
theorem equal_g8 (x0 x1 x2 x3 x4 x5 x6 x7 : Int) (w : World) : (Op.equalIn 10000 26 (.agg #[.int .u16 x0, .int .u16 x1, .int .u16 x2, .int .u16 x3, .int .u16 x4, .int .u16 x5, .int .u16 x6, .int .u16 x7]) (.agg #[.int .u16 x0, .int .u16 x1, .int .u16 x2, .int .u16 x3, .int .u16 x4, .int .u16 x5, .int .u16 x6, .int .u16 x7])).run Tryd.prog w = .ok true w :=
  equalIn_g8 9999 (fun a b w => run_equalIn_int w 9998 _ .u16 .u16 a b Tryd.underlying25) x0 x1 x2 x3 x4 x5 x6 x7 w
theorem equalIn_v6 (d : Nat) (hE : ∀ (a b : Int) (w : World), (Op.equalIn d 5 (.int .u8 a) (.int .u8 b)).run Tryd.prog w = .ok (a == b) w) (x0 x1 x2 x3 x4 x5 x6 x7 x8 x9 x10 x11 x12 x13 x14 x15 : Int) (w : World) : (Op.equalIn (d + 1) 23 (.agg #[.int .u8 x0, .int .u8 x1, .int .u8 x2, .int .u8 x3, .int .u8 x4, .int .u8 x5, .int .u8 x6, .int .u8 x7, .int .u8 x8, .int .u8 x9, .int .u8 x10, .int .u8 x11, .int .u8 x12, .int .u8 x13, .int .u8 x14, .int .u8 x15]) (.agg #[.int .u8 x0, .int .u8 x1, .int .u8 x2, .int .u8 x3, .int .u8 x4, .int .u8 x5, .int .u8 x6, .int .u8 x7, .int .u8 x8, .int .u8 x9, .int .u8 x10, .int .u8 x11, .int .u8 x12, .int .u8 x13, .int .u8 x14, .int .u8 x15])).run Tryd.prog w = .ok true w := by
  have h : Tryd.prog.underlying 23 = some (.array 16 5) := Tryd.underlying23
  have hz : ∀ w : World, (sizeOf 5).run Tryd.prog w = .ok 1 w := fun w => by kernel_rfl
  have q0 : ∀ (x0 x1 x2 x3 x4 x5 x6 x7 x8 x9 x10 x11 x12 x13 x14 x15 : Int) (w : World), (part 5 #[.int .u8 x0, .int .u8 x1, .int .u8 x2, .int .u8 x3, .int .u8 x4, .int .u8 x5, .int .u8 x6, .int .u8 x7, .int .u8 x8, .int .u8 x9, .int .u8 x10, .int .u8 x11, .int .u8 x12, .int .u8 x13, .int .u8 x14, .int .u8 x15] 0).run Tryd.prog w = .ok (.int .u8 x0) w := fun _ _ _ _ _ _ _ _ _ _ _ _ _ _ _ _ _ => by kernel_rfl
  have q1 : ∀ (x0 x1 x2 x3 x4 x5 x6 x7 x8 x9 x10 x11 x12 x13 x14 x15 : Int) (w : World), (part 5 #[.int .u8 x0, .int .u8 x1, .int .u8 x2, .int .u8 x3, .int .u8 x4, .int .u8 x5, .int .u8 x6, .int .u8 x7, .int .u8 x8, .int .u8 x9, .int .u8 x10, .int .u8 x11, .int .u8 x12, .int .u8 x13, .int .u8 x14, .int .u8 x15] 1).run Tryd.prog w = .ok (.int .u8 x1) w := fun _ _ _ _ _ _ _ _ _ _ _ _ _ _ _ _ _ => by kernel_rfl
  have q2 : ∀ (x0 x1 x2 x3 x4 x5 x6 x7 x8 x9 x10 x11 x12 x13 x14 x15 : Int) (w : World), (part 5 #[.int .u8 x0, .int .u8 x1, .int .u8 x2, .int .u8 x3, .int .u8 x4, .int .u8 x5, .int .u8 x6, .int .u8 x7, .int .u8 x8, .int .u8 x9, .int .u8 x10, .int .u8 x11, .int .u8 x12, .int .u8 x13, .int .u8 x14, .int .u8 x15] 2).run Tryd.prog w = .ok (.int .u8 x2) w := fun _ _ _ _ _ _ _ _ _ _ _ _ _ _ _ _ _ => by kernel_rfl
  have q3 : ∀ (x0 x1 x2 x3 x4 x5 x6 x7 x8 x9 x10 x11 x12 x13 x14 x15 : Int) (w : World), (part 5 #[.int .u8 x0, .int .u8 x1, .int .u8 x2, .int .u8 x3, .int .u8 x4, .int .u8 x5, .int .u8 x6, .int .u8 x7, .int .u8 x8, .int .u8 x9, .int .u8 x10, .int .u8 x11, .int .u8 x12, .int .u8 x13, .int .u8 x14, .int .u8 x15] 3).run Tryd.prog w = .ok (.int .u8 x3) w := fun _ _ _ _ _ _ _ _ _ _ _ _ _ _ _ _ _ => by kernel_rfl
  have q4 : ∀ (x0 x1 x2 x3 x4 x5 x6 x7 x8 x9 x10 x11 x12 x13 x14 x15 : Int) (w : World), (part 5 #[.int .u8 x0, .int .u8 x1, .int .u8 x2, .int .u8 x3, .int .u8 x4, .int .u8 x5, .int .u8 x6, .int .u8 x7, .int .u8 x8, .int .u8 x9, .int .u8 x10, .int .u8 x11, .int .u8 x12, .int .u8 x13, .int .u8 x14, .int .u8 x15] 4).run Tryd.prog w = .ok (.int .u8 x4) w := fun _ _ _ _ _ _ _ _ _ _ _ _ _ _ _ _ _ => by kernel_rfl
  have q5 : ∀ (x0 x1 x2 x3 x4 x5 x6 x7 x8 x9 x10 x11 x12 x13 x14 x15 : Int) (w : World), (part 5 #[.int .u8 x0, .int .u8 x1, .int .u8 x2, .int .u8 x3, .int .u8 x4, .int .u8 x5, .int .u8 x6, .int .u8 x7, .int .u8 x8, .int .u8 x9, .int .u8 x10, .int .u8 x11, .int .u8 x12, .int .u8 x13, .int .u8 x14, .int .u8 x15] 5).run Tryd.prog w = .ok (.int .u8 x5) w := fun _ _ _ _ _ _ _ _ _ _ _ _ _ _ _ _ _ => by kernel_rfl
  have q6 : ∀ (x0 x1 x2 x3 x4 x5 x6 x7 x8 x9 x10 x11 x12 x13 x14 x15 : Int) (w : World), (part 5 #[.int .u8 x0, .int .u8 x1, .int .u8 x2, .int .u8 x3, .int .u8 x4, .int .u8 x5, .int .u8 x6, .int .u8 x7, .int .u8 x8, .int .u8 x9, .int .u8 x10, .int .u8 x11, .int .u8 x12, .int .u8 x13, .int .u8 x14, .int .u8 x15] 6).run Tryd.prog w = .ok (.int .u8 x6) w := fun _ _ _ _ _ _ _ _ _ _ _ _ _ _ _ _ _ => by kernel_rfl
  have q7 : ∀ (x0 x1 x2 x3 x4 x5 x6 x7 x8 x9 x10 x11 x12 x13 x14 x15 : Int) (w : World), (part 5 #[.int .u8 x0, .int .u8 x1, .int .u8 x2, .int .u8 x3, .int .u8 x4, .int .u8 x5, .int .u8 x6, .int .u8 x7, .int .u8 x8, .int .u8 x9, .int .u8 x10, .int .u8 x11, .int .u8 x12, .int .u8 x13, .int .u8 x14, .int .u8 x15] 7).run Tryd.prog w = .ok (.int .u8 x7) w := fun _ _ _ _ _ _ _ _ _ _ _ _ _ _ _ _ _ => by kernel_rfl
  have q8 : ∀ (x0 x1 x2 x3 x4 x5 x6 x7 x8 x9 x10 x11 x12 x13 x14 x15 : Int) (w : World), (part 5 #[.int .u8 x0, .int .u8 x1, .int .u8 x2, .int .u8 x3, .int .u8 x4, .int .u8 x5, .int .u8 x6, .int .u8 x7, .int .u8 x8, .int .u8 x9, .int .u8 x10, .int .u8 x11, .int .u8 x12, .int .u8 x13, .int .u8 x14, .int .u8 x15] 8).run Tryd.prog w = .ok (.int .u8 x8) w := fun _ _ _ _ _ _ _ _ _ _ _ _ _ _ _ _ _ => by kernel_rfl
  have q9 : ∀ (x0 x1 x2 x3 x4 x5 x6 x7 x8 x9 x10 x11 x12 x13 x14 x15 : Int) (w : World), (part 5 #[.int .u8 x0, .int .u8 x1, .int .u8 x2, .int .u8 x3, .int .u8 x4, .int .u8 x5, .int .u8 x6, .int .u8 x7, .int .u8 x8, .int .u8 x9, .int .u8 x10, .int .u8 x11, .int .u8 x12, .int .u8 x13, .int .u8 x14, .int .u8 x15] 9).run Tryd.prog w = .ok (.int .u8 x9) w := fun _ _ _ _ _ _ _ _ _ _ _ _ _ _ _ _ _ => by kernel_rfl
  have q10 : ∀ (x0 x1 x2 x3 x4 x5 x6 x7 x8 x9 x10 x11 x12 x13 x14 x15 : Int) (w : World), (part 5 #[.int .u8 x0, .int .u8 x1, .int .u8 x2, .int .u8 x3, .int .u8 x4, .int .u8 x5, .int .u8 x6, .int .u8 x7, .int .u8 x8, .int .u8 x9, .int .u8 x10, .int .u8 x11, .int .u8 x12, .int .u8 x13, .int .u8 x14, .int .u8 x15] 10).run Tryd.prog w = .ok (.int .u8 x10) w := fun _ _ _ _ _ _ _ _ _ _ _ _ _ _ _ _ _ => by kernel_rfl
  have q11 : ∀ (x0 x1 x2 x3 x4 x5 x6 x7 x8 x9 x10 x11 x12 x13 x14 x15 : Int) (w : World), (part 5 #[.int .u8 x0, .int .u8 x1, .int .u8 x2, .int .u8 x3, .int .u8 x4, .int .u8 x5, .int .u8 x6, .int .u8 x7, .int .u8 x8, .int .u8 x9, .int .u8 x10, .int .u8 x11, .int .u8 x12, .int .u8 x13, .int .u8 x14, .int .u8 x15] 11).run Tryd.prog w = .ok (.int .u8 x11) w := fun _ _ _ _ _ _ _ _ _ _ _ _ _ _ _ _ _ => by kernel_rfl
  have q12 : ∀ (x0 x1 x2 x3 x4 x5 x6 x7 x8 x9 x10 x11 x12 x13 x14 x15 : Int) (w : World), (part 5 #[.int .u8 x0, .int .u8 x1, .int .u8 x2, .int .u8 x3, .int .u8 x4, .int .u8 x5, .int .u8 x6, .int .u8 x7, .int .u8 x8, .int .u8 x9, .int .u8 x10, .int .u8 x11, .int .u8 x12, .int .u8 x13, .int .u8 x14, .int .u8 x15] 12).run Tryd.prog w = .ok (.int .u8 x12) w := fun _ _ _ _ _ _ _ _ _ _ _ _ _ _ _ _ _ => by kernel_rfl
  have q13 : ∀ (x0 x1 x2 x3 x4 x5 x6 x7 x8 x9 x10 x11 x12 x13 x14 x15 : Int) (w : World), (part 5 #[.int .u8 x0, .int .u8 x1, .int .u8 x2, .int .u8 x3, .int .u8 x4, .int .u8 x5, .int .u8 x6, .int .u8 x7, .int .u8 x8, .int .u8 x9, .int .u8 x10, .int .u8 x11, .int .u8 x12, .int .u8 x13, .int .u8 x14, .int .u8 x15] 13).run Tryd.prog w = .ok (.int .u8 x13) w := fun _ _ _ _ _ _ _ _ _ _ _ _ _ _ _ _ _ => by kernel_rfl
  have q14 : ∀ (x0 x1 x2 x3 x4 x5 x6 x7 x8 x9 x10 x11 x12 x13 x14 x15 : Int) (w : World), (part 5 #[.int .u8 x0, .int .u8 x1, .int .u8 x2, .int .u8 x3, .int .u8 x4, .int .u8 x5, .int .u8 x6, .int .u8 x7, .int .u8 x8, .int .u8 x9, .int .u8 x10, .int .u8 x11, .int .u8 x12, .int .u8 x13, .int .u8 x14, .int .u8 x15] 14).run Tryd.prog w = .ok (.int .u8 x14) w := fun _ _ _ _ _ _ _ _ _ _ _ _ _ _ _ _ _ => by kernel_rfl
  have q15 : ∀ (x0 x1 x2 x3 x4 x5 x6 x7 x8 x9 x10 x11 x12 x13 x14 x15 : Int) (w : World), (part 5 #[.int .u8 x0, .int .u8 x1, .int .u8 x2, .int .u8 x3, .int .u8 x4, .int .u8 x5, .int .u8 x6, .int .u8 x7, .int .u8 x8, .int .u8 x9, .int .u8 x10, .int .u8 x11, .int .u8 x12, .int .u8 x13, .int .u8 x14, .int .u8 x15] 15).run Tryd.prog w = .ok (.int .u8 x15) w := fun _ _ _ _ _ _ _ _ _ _ _ _ _ _ _ _ _ => by kernel_rfl
  simp only [Op.equalIn, Sem.run_bind, run_underlying h, Result.andThen_ok, hz]
  simp only [Std.Legacy.Range.forIn_eq_forIn_range', Std.Legacy.Range.size]
  simp [List.range', hE, q0, q1, q2, q3, q4, q5, q6, q7, q8, q9, q10, q11, q12, q13, q14, q15, Sem.run_bind]
theorem equal_v6 (x0 x1 x2 x3 x4 x5 x6 x7 x8 x9 x10 x11 x12 x13 x14 x15 : Int) (w : World) : (Op.equalIn 10000 23 (.agg #[.int .u8 x0, .int .u8 x1, .int .u8 x2, .int .u8 x3, .int .u8 x4, .int .u8 x5, .int .u8 x6, .int .u8 x7, .int .u8 x8, .int .u8 x9, .int .u8 x10, .int .u8 x11, .int .u8 x12, .int .u8 x13, .int .u8 x14, .int .u8 x15]) (.agg #[.int .u8 x0, .int .u8 x1, .int .u8 x2, .int .u8 x3, .int .u8 x4, .int .u8 x5, .int .u8 x6, .int .u8 x7, .int .u8 x8, .int .u8 x9, .int .u8 x10, .int .u8 x11, .int .u8 x12, .int .u8 x13, .int .u8 x14, .int .u8 x15])).run Tryd.prog w = .ok true w :=
  equalIn_v6 9999 (fun a b w => run_equalIn_int w 9998 _ .u8 .u8 a b Tryd.underlying5) x0 x1 x2 x3 x4 x5 x6 x7 x8 x9 x10 x11 x12 x13 x14 x15 w
end Go.Proofs.YtameipbnobaoeaaDoor

/- The reference's text of an address: plain facts. -/
namespace Go.Proofs.YtameipbnobaoeaaDoor
open Go.RowKit

/-- How long the row of noughts is that begins at a place. -/
def runZ (z : List Bool) (i : Nat) : Nat := ((z.drop i).takeWhile id).length
def refA (z : List Bool) : Nat → Nat × Nat
  | 0 => (0, 0)
  | i + 1 => if (refA z i).2 < runZ z i then (i, runZ z i) else refA z i
theorem ref_long_all : ∀ b0 b1 b2 b3 b4 b5 b6 b7 : Bool, refA [b0, b1, b2, b3, b4, b5, b6, b7] 8 = ((longA [b0, b1, b2, b3, b4, b5, b6, b7] 0 (0, 0, 0)).1, (longA [b0, b1, b2, b3, b4, b5, b6, b7] 0 (0, 0, 0)).2.1) := by decide +kernel
theorem ref_long {g : List Nat} (h : g.length = 8) : refA (zerosH g) 8 = longH g := by
  obtain ⟨a, b, c, d, e, f, x, y, rfl⟩ := eight h
  exact ref_long_all _ _ _ _ _ _ _ _
theorem runZ_is {g : List Nat} {i k : Nat} (hi : i + k ≤ g.length) (h : ∀ j, j < k → g.getD (i + j) 0 = 0) (he : i + k = g.length ∨ g.getD (i + k) 0 ≠ 0) : runZ (zerosH g) i = k := by
  have hz : ∀ (l : List Nat) (k : Nat), k ≤ l.length → (∀ j, j < k → l.getD j 0 = 0) → (k = l.length ∨ l.getD k 0 ≠ 0) → ((l.map fun n => decide (n = 0)).takeWhile id).length = k := by
    intro l
    induction l with
    | nil => intro k hk _ _; simp at hk; subst hk; rfl
    | cons n l ih =>
      intro k hk h he
      cases k with
      | zero =>
        rcases he with he | he
        · simp at he
        · have : ¬ n = 0 := by simpa using he
          simp [this]
      | succ k =>
        have h0 : n = 0 := by simpa using h 0 (by omega)
        subst h0
        have := ih k (by simpa using hk) (fun j hj => by simpa using h (j + 1) (by omega)) (by
          rcases he with he | he
          · exact .inl (by simpa using he)
          · exact .inr (by simpa using he))
        simp [this]
  unfold runZ zerosH
  rw [← List.map_drop]
  refine hz (g.drop i) k (by rw [List.length_drop]; omega) (fun j hj => ?_) ?_
  · have := h j hj
    simpa [List.getD, List.getElem?_drop] using this
  · rcases he with he | he
    · exact .inl (by rw [List.length_drop]; omega)
    · exact .inr (by simpa [List.getD, List.getElem?_drop] using he)
/-- What a group adds to the text. -/
def pieceR (a s : Nat) (g : List Nat) (i : Nat) : List UInt8 := (if 2 ≤ s ∧ i = a then [58, 58] else []) ++ (if 2 ≤ s ∧ a ≤ i ∧ i < a + s then [] else (if 0 < i ∧ (s < 2 ∨ i ≠ a + s) then [58] else []) ++ hexG (g.getD i 0))
def outR (a s : Nat) (g : List Nat) : Nat → List UInt8
  | 0 => []
  | i + 1 => outR a s g i ++ pieceR a s g i
theorem out_all (a s : Nat) (g : List Nat) : outR a s g 8 = pieceR a s g 0 ++ (pieceR a s g 1 ++ (pieceR a s g 2 ++ (pieceR a s g 3 ++ (pieceR a s g 4 ++ (pieceR a s g 5 ++ (pieceR a s g 6 ++ pieceR a s g 7)))))) := by
  simp [outR]
theorem out_text {g : List Nat} (h : g.length = 8) : outR (longH g).1 (longH g).2 g 8 = textH g := by
  have hl := long_le h
  have ht : textH g = if (longH g).2 < 2 then joinA 58 (g.map hexG) else joinA 58 ((g.take (longH g).1).map hexG) ++ 58 :: 58 :: joinA 58 ((g.drop ((longH g).1 + (longH g).2)).map hexG) := rfl
  rw [ht]
  generalize (longH g).1 = a at *
  generalize (longH g).2 = s at *
  obtain ⟨x0, x1, x2, x3, x4, x5, x6, x7, rfl⟩ := eight h
  rw [out_all]
  clear h ht
  by_cases hs : s < 2
  · rw [if_pos hs]
    have n2 : ¬ 2 ≤ s := by omega
    simp [pieceR, hs, n2, joinA]
  · rw [if_neg hs]
    have e2 : 2 ≤ s := by omega
    have hs' : s = 2 ∨ s = 3 ∨ s = 4 ∨ s = 5 ∨ s = 6 ∨ s = 7 ∨ s = 8 := by omega
    have ha' : a = 0 ∨ a = 1 ∨ a = 2 ∨ a = 3 ∨ a = 4 ∨ a = 5 ∨ a = 6 := by omega
    clear hs e2
    rcases hs' with rfl | rfl | rfl | rfl | rfl | rfl | rfl <;> rcases ha' with rfl | rfl | rfl | rfl | rfl | rfl | rfl <;> first | omega | simp [pieceR, joinA]
end Go.Proofs.YtameipbnobaoeaaDoor
