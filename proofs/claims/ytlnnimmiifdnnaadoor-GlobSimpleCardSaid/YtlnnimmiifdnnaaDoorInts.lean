/- The code's ints. -/
import Derived.Test.YtlnnimmiifdnnaaDoorKit
namespace Go.Proofs.YtlnnimmiifdnnaaDoor
open Go.RowKit

theorem info_int : (Tryd.prog.info? 3).map (fun i => (i.zero, i.size, i.bytes)) = some (some (.int .i64 0), 1, 8) := by kernel_rfl
def intV (n : Nat) : Value := .int .i64 (n : Int)
end Go.Proofs.YtlnnimmiifdnnaaDoor
