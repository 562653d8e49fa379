/- What a row's list of package variables gives: errors.errorType, the tables of unicode/utf8. A world that holds them. -/
import Derived.Test.YtameipbnobaoeaaDoorHexadTextsM9
import Derived.LaidHandle
import Derived.LaidLaws
import Derived.Stop.Joined
import Derived.Lib.LaidU8T
import Derived.Shelf.Unicode.DecodeSlow
import Derived.Test.YtameipbnobaoeaaDoorHexadTextsM18

namespace Go.Proofs.YtameipbnobaoeaaDoor
open Go.ChangeShapes Go.WideShapes Go.RowKit

/-- The tables of unicode/utf8, as their initialisers lay them. -/
def Utf8Laid (w : World) : Prop := Lib.Utf8Tabs 2 3 w
theorem Utf8Laid.below {w w' : World} (h : Utf8Laid w) (hb : Below w.heap.size w w') : Utf8Laid w' :=
  ⟨fun c hc => (hb.cell (World.block_lt_of_cell? w _ (h.1 c hc))).trans (h.1 c hc),
    fun i hi => ⟨(hb.cell (World.block_lt_of_cell? w _ (h.2 i hi).1)).trans (h.2 i hi).1, (hb.cell (World.block_lt_of_cell? w _ (h.2 i hi).2)).trans (h.2 i hi).2⟩⟩
theorem Utf8Laid.drewN {w : World} (h : Utf8Laid w) (n : Nat) : Utf8Laid (w.drewN n) := h

def u8ren : Go.Shelf.Ren := ⟨fun n => n, fun | 5 => 5 | 119 => 139 | 138 => 141 | 139 => 142 | n => n, fun | 3 => 2 | 4 => 3 | n => n⟩
theorem u8types : U8Types Tryd.prog u8ren := { t5 := Tryd.underlying5, t119 := Tryd.underlying139, t138 := Tryd.underlying141, t139 := Tryd.underlying142 }
theorem u8extra : U8Extra Tryd.prog u8ren := { n3 := by kernel_rfl, n4 := by kernel_rfl, y3 := by kernel_rfl, y4 := by kernel_rfl, c5 := by kernel_rfl, c119 := by kernel_rfl, c138 := by kernel_rfl }
theorem u8first : Lib.firstData = Rows.laid_unicode_utf8_first := by kernel_rfl
theorem u8accept : Lib.acceptData = Rows.laid_unicode_utf8_acceptRanges := by kernel_rfl
noncomputable def laidWorld (os : Os) : World :=
  let w0 := World.holding Tryd.prog os ⟨#[], #[], []⟩
  let h1 := w0.heap.modify 1 fun
      | .cells _ t frozen => .cells #[.iface 125 (.agg #[.pointer (some ⟨4, 29, none⟩)])] t frozen
      | o => o
  let h2 := h1.modify 2 fun
      | .cells _ t frozen => .cells (Lib.firstTab.map (Value.int .u8)).toArray t frozen
      | o => o
  let h3 := h2.modify 3 fun
      | .cells _ t frozen => .cells ((List.range 16).flatMap fun i => [Value.int .u8 (Lib.accLo i : Nat), Value.int .u8 (Lib.accHi i : Nat)]).toArray t frozen
      | o => o
  { w0 with heap := h3 }
end Go.Proofs.YtameipbnobaoeaaDoor

/- The walk of HexadTexts, as the card asks it. -/
namespace Go.Proofs.YtameipbnobaoeaaDoor
open Go.RowKit

theorem walkHexadTexts (b : List Nat) (w : World) (hg : Handle w) (_ : Utf8Laid w) (hm : MaxAt w) (hl : b.length = 16) (hb : ∀ x ∈ b, x < 256) :
    Calls Tryd.prog 3 #[.agg (b.map u8V).toArray] w fun e w' => e = .returned (.bool true) ∧ Below w.heap.size w w' := texts_walk12 b w hl hb hg hm
end Go.Proofs.YtameipbnobaoeaaDoor
