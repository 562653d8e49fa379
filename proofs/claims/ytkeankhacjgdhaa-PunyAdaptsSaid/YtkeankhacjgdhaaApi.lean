/- The contracts of package api: Fail makes a fault in a new block. -/
import Derived.Test.YtkeankhacjgdhaaKit
namespace Go.Proofs.Ytkeankhacjgdhaa
open Go.RowKit

theorem api_Fail (k i : Int) (w : World) : Calls Try.prog 12 #[.int .i64 k, .int .i64 i] w fun e w' =>
    e = .returned (.iface 55 (.pointer (some ⟨w.heap.size, 0, none⟩))) ∧ w.alloc (.cells #[.int .i64 k, .int .i64 i, .nilIface] 57) = w' := by
  go_enter Try.func12, Try.ntmps12
  go_wp2
  go_ret
  exact ⟨rfl, rfl⟩

theorem api_Fail' (k i : Int) (w : World) : Calls Try.prog 12 #[.int .i64 k, .int .i64 i] w fun e w' =>
    ∃ v, e = .returned v ∧ IsFault w' v k i ∧ Below w.heap.size w w' :=
  (api_Fail k i w).mono fun _ _ ⟨he, hw⟩ => ⟨_, he, ⟨_, rfl, by rw [← hw]; exact heap_alloc_new w _⟩, by rw [← hw]; exact (Below.refl _ _).alloc (Nat.le_refl _) _⟩
end Go.Proofs.Ytkeankhacjgdhaa
