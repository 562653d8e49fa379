/- What the row's list gives, where errors.errorType alone is listed; a world that meets it. -/
import Derived.Test.YtpaeloadmjblpaaDoorHandle
import Derived.LaidHandle
import Derived.LaidLaws
import Derived.Stop.Joined
namespace Go.Proofs.YtpaeloadmjblpaaDoor
open Go.ChangeShapes Go.WideShapes Go.RowKit

noncomputable def laidWorld (os : Os) : World :=
  let w0 := World.holding Tryd.prog os ⟨#[], #[], []⟩
  { w0 with heap := w0.heap.modify 0 fun
      | .cells _ t frozen => .cells #[.iface 103 (.agg #[.pointer (some ⟨2, 31, none⟩)])] t frozen
      | o => o }
end Go.Proofs.YtpaeloadmjblpaaDoor
