/-
  DERIVED. GIVEN WITH THE SEED: THE CARDS: each row of YtkgifenidmbdkaaDoorRows.lean that lists a variable, with what it lists TIED to the program's text (the seventh form; the later family's looks); each row that meets fmt, with fmt's text TOLD by the authors' own Lean function (tested against real Go, not proved from fmt's source: count such statements apart). THE CARD IS WHAT COUNTS. Prove the row's statement (the work); the ties are given (YtkgifenidmbdkaaDoorTie.lean); close each card by the builder's one call (the guide's Derived/Test/ToyasCard.lean, 'card_holds'). Laid BY PROGRAM, IN A SANDBOX (cutbox-door.mjs). By AI agents, Wed Nov 11 2026. No macro, syntax, notation, axiom, sorry.
-/
import Derived.Test.YtkgifenidmbdkaaDoorRows
import GoSem.ClaimSeven
namespace Go.Proofs.YtkgifenidmbdkaaDoor
namespace Rows

/-- THE TIED CARD OF 'waybilllaw26.WireOnce'. -/
def wireOnceCard : Claim7 := { stood := { row := wireOnceRow, standIns := [], harness := (true, "bb6687368a096b58e43f0b6533825a0c2b895e57c2b40cc1d281b2dc9d25b901"), looks := true }, kinds := [], alts := [], laidByText := true, laidKinds := [.data, .handle, .pinned], laidTests := true, laidLooks := .later }
def WireOnceCardSaid : Prop := Claim7.holds Tryd.pinned (.plain (OpenSpec.ofChange wireOnceSpec)) wireOnceCard

/-- THE SECOND FORM's CARD OF 'waybilllaw26.WireOnce'. -/
def wireOnceUptoCard : Claim7 := { stood := { row := wireOnceUptoRow, standIns := [], harness := (true, "bb6687368a096b58e43f0b6533825a0c2b895e57c2b40cc1d281b2dc9d25b901"), looks := true }, kinds := [], alts := [], laidByText := true, laidKinds := [.data, .handle, .pinned], laidTests := true, laidLooks := .later }
def WireOnceUptoCardSaid : Prop := Claim7.holds Tryd.pinned (.plain (OpenSpec.upto wireOnceSpec)) wireOnceUptoCard
end Rows
end Go.Proofs.YtkgifenidmbdkaaDoor
