/- What a row's list of package variables gives: errors.errorType; plain data. -/
import Derived.Test.YtpaeloadmjblpaaDoorKit
import Derived.LaidHandle
import Derived.LaidLaws
import Derived.Stop.Joined
import Derived.Lib.LaidU8T
namespace Go.Proofs.YtpaeloadmjblpaaDoor
open Go.ChangeShapes Go.WideShapes Go.RowKit

/-- The package-level variable that errors.As reads, as the row lists it. -/
def Handle (w : World) : Prop := w.cell? ⟨0, 0, none⟩ = some (.iface 103 (.agg #[.pointer (some ⟨2, 31, none⟩)]))
theorem Handle.below {w w' : World} (h : Handle w) (hb : Below w.heap.size w w') : Handle w' := (hb.cell (World.block_lt_of_cell? w _ h)).trans h
theorem Handle.drewN {w : World} (h : Handle w) (n : Nat) : Handle (w.drewN n) := h

theorem laid_et : Tryd.prog.globalNamed "errors.errorType" = some 0 := by kernel_rfl
theorem laid_row : ((List.range 154).filter fun t => Tryd.prog.rowNamed t [101, 114, 114, 111, 114]) = [31] := by kernel_rfl
theorem laid_size : Tryd.prog.types.size = 154 := by kernel_rfl

theorem handle_of_laid {l : List (String × DataW Unit)} {W : World} (h : laidMetH Tryd.prog l W) (hx : ("errors.errorType", Rows.laid_errors_errorType) ∈ l) : Handle W := by
  have hs : (Rows.laid_errors_errorType : DataW Unit).handleName?.isSome = true := rfl
  have hm : ("errors.errorType", Rows.laid_errors_errorType) ∈ l.filter fun x => x.2.handleName?.isSome := List.mem_filter.2 ⟨hx, hs⟩
  unfold laidMetH at h
  generalize (l.filter fun x => x.2.handleName?.isSome) = fl at h hm
  cases fl with
  | nil => cases hm
  | cons a q =>
    obtain ⟨name, u, ty, e1, e2, e3, e4, e5⟩ := h.2 _ hm
    have en : name = [101, 114, 114, 111, 114] := (Option.some.inj e1).symm
    subst en
    obtain rfl : u = 103 := Option.some.inj (e2.symm.trans (by kernel_rfl))
    have hm : ty ∈ (List.range 154).filter fun t => Tryd.prog.rowNamed t [101, 114, 114, 111, 114] := List.mem_filter.2 ⟨List.mem_range.2 (by rw [← laid_size]; exact e3), e4⟩
    rw [laid_row] at hm
    obtain rfl := List.mem_singleton.1 hm
    have hh : typeHandle Tryd.prog 31 = .pointer (some ⟨2, 31, none⟩) := by kernel_rfl
    rw [hh] at e5
    simpa [Handle] using World.var?_cell laid_et e5 0

theorem data_of_laid {l : List (String × DataW Unit)} {W : World} (h : laidMetH Tryd.prog l W) {n : String} {d : DataW Unit} (hx : (n, d) ∈ l) (hd : d.handleName?.isNone = true) : Lib.VarReads Tryd.prog W n d := by
  unfold laidMetH at h
  generalize hfl : (l.filter fun x => x.2.handleName?.isSome) = fl at h
  cases fl with
  | nil => exact Lib.laidMet.reads h hx
  | cons a q => exact Lib.laidMet.reads h.1 (List.mem_filter.2 ⟨hx, hd⟩)

end Go.Proofs.YtpaeloadmjblpaaDoor
