/-
  DERIVED. GIVEN WITH THE SEED: THE CARDS: each row of YtndppcklpcfikaaGreatDoorRows.lean that lists a variable, with what it lists TIED to the program's text (the seventh form; the later family's looks); each row that meets fmt, with fmt's text TOLD by the authors' own Lean function (tested against real Go, not proved from fmt's source: count such statements apart). THE CARD IS WHAT COUNTS. Prove the row's statement (the work); the ties are given (YtndppcklpcfikaaGreatDoorTie.lean); close each card by the builder's one call (the guide's Derived/Test/ToyasCard.lean, 'card_holds'). Laid BY PROGRAM, IN A SANDBOX (cutbox-door.mjs). By AI agents, Wed Nov 11 2026. No macro, syntax, notation, axiom, sorry.
-/
import Derived.Test.YtndppcklpcfikaaGreatDoorRows
import GoSem.ClaimSeven
namespace Go.Proofs.YtndppcklpcfikaaGreatDoor
namespace Rows

/-- THE TIED CARD OF 'waybilllaw17.MediaTexts'. -/
def mediaTextsCard : Claim7 := { stood := { row := mediaTextsRow, standIns := [], harness := (true, "c4b07a44cebb2267917fee57cfba6cc690fd3c6d6e6714fda59cc2ca76c01fb6"), looks := true }, kinds := [], alts := [], laidByText := true, laidKinds := [.data, .pinned], laidTests := true, laidLooks := .later }
def MediaTextsCardSaid : Prop := Claim7.holds Tryz.pinned (.plain (OpenSpec.ofChange mediaTextsSpec)) mediaTextsCard

/-- THE TIED CARD OF 'waybilllaw17.MediaCases'. -/
def mediaCasesCard : Claim7 := { stood := { row := mediaCasesRow, standIns := [], harness := (true, "c4b07a44cebb2267917fee57cfba6cc690fd3c6d6e6714fda59cc2ca76c01fb6"), looks := true }, kinds := [], alts := [], laidByText := true, laidKinds := [.data, .pinned], laidTests := true, laidLooks := .later }
def MediaCasesCardSaid : Prop := Claim7.holds Tryz.pinned (.plain (OpenSpec.ofChange mediaCasesSpec)) mediaCasesCard

/-- THE TIED CARD OF 'waybilllaw17.MediaReads'. -/
def mediaReadsCard : Claim7 := { stood := { row := mediaReadsRow, standIns := [], harness := (true, "c4b07a44cebb2267917fee57cfba6cc690fd3c6d6e6714fda59cc2ca76c01fb6"), looks := true }, kinds := [], alts := [], laidByText := true, laidKinds := [.data, .handle, .pinned], laidTests := true, laidLooks := .later }
def MediaReadsCardSaid : Prop := Claim7.holds Tryz.pinned (.plain (OpenSpec.ofChange mediaReadsSpec)) mediaReadsCard

/-- THE SECOND FORM's CARD OF 'waybilllaw17.MediaTexts'. -/
def mediaTextsUptoCard : Claim7 := { stood := { row := mediaTextsUptoRow, standIns := [], harness := (true, "c4b07a44cebb2267917fee57cfba6cc690fd3c6d6e6714fda59cc2ca76c01fb6"), looks := true }, kinds := [], alts := [], laidByText := true, laidKinds := [.data, .pinned], laidTests := true, laidLooks := .later }
def MediaTextsUptoCardSaid : Prop := Claim7.holds Tryz.pinned (.plain (OpenSpec.upto mediaTextsSpec)) mediaTextsUptoCard

/-- THE SECOND FORM's CARD OF 'waybilllaw17.MediaCases'. -/
def mediaCasesUptoCard : Claim7 := { stood := { row := mediaCasesUptoRow, standIns := [], harness := (true, "c4b07a44cebb2267917fee57cfba6cc690fd3c6d6e6714fda59cc2ca76c01fb6"), looks := true }, kinds := [], alts := [], laidByText := true, laidKinds := [.data, .pinned], laidTests := true, laidLooks := .later }
def MediaCasesUptoCardSaid : Prop := Claim7.holds Tryz.pinned (.plain (OpenSpec.upto mediaCasesSpec)) mediaCasesUptoCard

/-- THE SECOND FORM's CARD OF 'waybilllaw17.MediaReads'. -/
def mediaReadsUptoCard : Claim7 := { stood := { row := mediaReadsUptoRow, standIns := [], harness := (true, "c4b07a44cebb2267917fee57cfba6cc690fd3c6d6e6714fda59cc2ca76c01fb6"), looks := true }, kinds := [], alts := [], laidByText := true, laidKinds := [.data, .handle, .pinned], laidTests := true, laidLooks := .later }
def MediaReadsUptoCardSaid : Prop := Claim7.holds Tryz.pinned (.plain (OpenSpec.upto mediaReadsSpec)) mediaReadsUptoCard
end Rows
end Go.Proofs.YtndppcklpcfikaaGreatDoor
