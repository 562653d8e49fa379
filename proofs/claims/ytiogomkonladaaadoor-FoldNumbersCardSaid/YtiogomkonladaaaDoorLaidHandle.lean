/- What the row's list gives, where errors.errorType alone is listed; a world that meets it. -/
import Derived.Test.YtiogomkonladaaaDoorKind
import Derived.LaidHandle
import Derived.LaidLaws
import Derived.Stop.Joined
namespace Go.Proofs.YtiogomkonladaaaDoor
open Go.ChangeShapes Go.WideShapes Go.RowKit

theorem laid_et : Tryd.prog.globalNamed "errors.errorType" = some 0 := by kernel_rfl
theorem laid_row : ((List.range 130).filter fun t => Tryd.prog.rowNamed t [101, 114, 114, 111, 114]) = [25] := by kernel_rfl
theorem laid_size : Tryd.prog.types.size = 130 := by kernel_rfl

theorem handle_of_laid {W : World} (h : laidMetH Tryd.prog [("errors.errorType", Rows.laid_errors_errorType)] W) : Handle W := by
  have h' : laidMet Tryd.prog [] W ∧ handlesMet Tryd.prog [("errors.errorType", Rows.laid_errors_errorType)] W := h
  obtain ⟨name, u, ty, e1, e2, e3, e4, e5⟩ := h'.2 _ (List.mem_singleton.2 rfl)
  have en : name = [101, 114, 114, 111, 114] := (Option.some.inj e1).symm
  subst en
  obtain rfl : u = 75 := Option.some.inj (e2.symm.trans (by kernel_rfl))
  have hm : ty ∈ (List.range 130).filter fun t => Tryd.prog.rowNamed t [101, 114, 114, 111, 114] := List.mem_filter.2 ⟨List.mem_range.2 (by rw [← laid_size]; exact e3), e4⟩
  rw [laid_row] at hm
  obtain rfl := List.mem_singleton.1 hm
  have hh : typeHandle Tryd.prog 25 = .pointer (some ⟨4, 25, none⟩) := by kernel_rfl
  rw [hh] at e5
  simpa [Handle] using World.var?_cell laid_et e5 0

noncomputable def laidWorld (os : Os) : World :=
  let w0 := World.holding Tryd.prog os ⟨#[], #[], []⟩
  { w0 with heap := w0.heap.modify 0 fun
      | .cells _ t frozen => .cells #[.iface 75 (.agg #[.pointer (some ⟨4, 25, none⟩)])] t frozen
      | o => o }
theorem laidWorld_met (os : Os) (args : Array Value) : laidMetH Tryd.prog [("errors.errorType", Rows.laid_errors_errorType)] ((laidWorld os).forCall (fun _ _ => 0) ⟨#[], args, []⟩).memory :=
  laidMetH_of_parts (laidMet_nil _ _) (by kernel_rfl)
end Go.Proofs.YtiogomkonladaaaDoor
