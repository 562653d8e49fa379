/- Two addresses, compared. -/
import Derived.Test.YtpaeloadmjblpaaDoorV4
namespace Go.Proofs.YtpaeloadmjblpaaDoor
open Go.RowKit

theorem equalIn_v4 (d : Nat) (hE : ∀ (a b : Int) (w : World), (Op.equalIn d 5 (.int .u8 a) (.int .u8 b)).run Tryd.prog w = .ok (a == b) w) (p q r s p' q' r' s' : Int) (w : World) : (Op.equalIn (d + 1) 25 (.agg #[.int .u8 p, .int .u8 q, .int .u8 r, .int .u8 s]) (.agg #[.int .u8 p', .int .u8 q', .int .u8 r', .int .u8 s'])).run Tryd.prog w = .ok ((p == p') && ((q == q') && ((r == r') && (s == s')))) w := by
  have h : Tryd.prog.underlying 25 = some (.array 4 5) := Tryd.underlying25
  have hz : ∀ w : World, (sizeOf 5).run Tryd.prog w = .ok 1 w := fun w => by kernel_rfl
  have q0 : ∀ (a b c d : Int) (w : World), (part 5 #[.int .u8 a, .int .u8 b, .int .u8 c, .int .u8 d] 0).run Tryd.prog w = .ok (.int .u8 a) w := fun _ _ _ _ _ => by kernel_rfl
  have q1 : ∀ (a b c d : Int) (w : World), (part 5 #[.int .u8 a, .int .u8 b, .int .u8 c, .int .u8 d] 1).run Tryd.prog w = .ok (.int .u8 b) w := fun _ _ _ _ _ => by kernel_rfl
  have q2 : ∀ (a b c d : Int) (w : World), (part 5 #[.int .u8 a, .int .u8 b, .int .u8 c, .int .u8 d] 2).run Tryd.prog w = .ok (.int .u8 c) w := fun _ _ _ _ _ => by kernel_rfl
  have q3 : ∀ (a b c d : Int) (w : World), (part 5 #[.int .u8 a, .int .u8 b, .int .u8 c, .int .u8 d] 3).run Tryd.prog w = .ok (.int .u8 d) w := fun _ _ _ _ _ => by kernel_rfl
  simp only [Op.equalIn, Sem.run_bind, run_underlying h, Result.andThen_ok, hz]
  simp only [Std.Legacy.Range.forIn_eq_forIn_range', Std.Legacy.Range.size]
  simp [List.range', hE, q0, q1, q2, q3, Sem.run_bind]
  by_cases h1 : p = p'
  · by_cases h2 : q = q'
    · by_cases h3 : r = r'
      · by_cases h4 : s = s'
        · simp [h1, h2, h3, h4]
        · simp [h1, h2, h3, h4]
      · simp [h1, h2, h3]
    · simp [h1, h2]
  · simp [h1]
theorem eq_v4 (p q r s p' q' r' s' : Int) (w : World) : (Op.equalIn 10000 25 (.agg #[.int .u8 p, .int .u8 q, .int .u8 r, .int .u8 s]) (.agg #[.int .u8 p', .int .u8 q', .int .u8 r', .int .u8 s'])).run Tryd.prog w = .ok ((p == p') && ((q == q') && ((r == r') && (s == s')))) w :=
  equalIn_v4 9999 (fun a b w => run_equalIn_int w 9998 _ .u8 .u8 a b Tryd.underlying5) p q r s p' q' r' s' w
theorem eql_v4 (p q r s p' q' r' s' : Int) (w : World) : (binOp .eql 25 (.agg #[.int .u8 p, .int .u8 q, .int .u8 r, .int .u8 s]) (.agg #[.int .u8 p', .int .u8 q', .int .u8 r', .int .u8 s'])).run Tryd.prog w = .ok (.bool ((p == p') && ((q == q') && ((r == r') && (s == s'))))) w := by
  rw [run_eql_struct, eq_v4]; rfl
theorem neq_v4 (p q r s p' q' r' s' : Int) (w : World) : (binOp .neq 25 (.agg #[.int .u8 p, .int .u8 q, .int .u8 r, .int .u8 s]) (.agg #[.int .u8 p', .int .u8 q', .int .u8 r', .int .u8 s'])).run Tryd.prog w = .ok (.bool (!((p == p') && ((q == q') && ((r == r') && (s == s')))))) w := by
  rw [run_neq_struct, eq_v4]; rfl
theorem same_v4 (n : Nat) (w : World) : (binOp .eql 25 (v4N n) (v4N n)).run Tryd.prog w = .ok (.bool true) w := by
  unfold v4N v4
  rw [eql_v4]
  simp
theorem same_v4' (n : Nat) (w : World) : (binOp .neq 25 (v4N n) (v4N n)).run Tryd.prog w = .ok (.bool false) w := by
  unfold v4N v4
  rw [neq_v4]
  simp
theorem V4At.made (w : World) (a b c d : Int) : V4At (w.alloc (.cells #[.int .u8 a, .int .u8 b, .int .u8 c, .int .u8 d] 25)) w.heap.size #[.int .u8 a, .int .u8 b, .int .u8 c, .int .u8 d] := ⟨rfl, heap_alloc_new w _⟩
theorem V4At.cells {w : World} {g : Nat} {a b c d : Value} (h : V4At w g #[a, b, c, d]) : w.cell? ⟨g, 0, none⟩ = some a ∧ w.cell? ⟨g, 1, none⟩ = some b ∧ w.cell? ⟨g, 2, none⟩ = some c ∧ w.cell? ⟨g, 3, none⟩ = some d := by
  have := h.2
  refine ⟨?_, ?_, ?_, ?_⟩ <;> (rw [cell_of_row w g _ _ _ _ h.2]; rfl)
end Go.Proofs.YtpaeloadmjblpaaDoor
