/- The contracts of package api: Fail makes a fault in a new block. -/
import Derived.Test.YtajpbfffpnbhpaaDoorKit
namespace Go.Proofs.YtajpbfffpnbhpaaDoor
open Go.RowKit

theorem api_Fail (k i : Int) (w : World) : Calls Tryd.prog 38 #[.int .i64 k, .int .i64 i] w fun e w' =>
    e = .returned (.iface 53 (.pointer (some ⟨w.heap.size, 0, none⟩))) ∧ w.alloc (.cells #[.int .i64 k, .int .i64 i, .nilIface] 57) = w' := by
  go_enter Tryd.func38, Tryd.ntmps38
  go_wp2
  go_ret
  exact ⟨rfl, rfl⟩

theorem api_Fail' (k i : Int) (w : World) : Calls Tryd.prog 38 #[.int .i64 k, .int .i64 i] w fun e w' =>
    ∃ v, e = .returned v ∧ IsFault w' v k i ∧ Below w.heap.size w w' :=
  (api_Fail k i w).mono fun _ _ ⟨he, hw⟩ => ⟨_, he, ⟨_, rfl, by rw [← hw]; exact heap_alloc_new w _⟩, by rw [← hw]; exact (Below.refl _ _).alloc (Nat.le_refl _) _⟩
end Go.Proofs.YtajpbfffpnbhpaaDoor
