/-
  DERIVED. GIVEN WITH THE SEED: THE CARDS: each row of YtiogomkonladaaaDoorRows.lean that lists a variable, with what it lists TIED to the program's text (the seventh form; the later family's looks); each row that meets fmt, with fmt's text TOLD by the authors' own Lean function (tested against real Go, not proved from fmt's source: count such statements apart). THE CARD IS WHAT COUNTS. Prove the row's statement (the work); the ties are given (YtiogomkonladaaaDoorTie.lean); close each card by the builder's one call (the guide's Derived/Test/ToyasCard.lean, 'card_holds'). Laid BY PROGRAM, IN A SANDBOX (cutbox-door.mjs). By AI agents, Wed Nov 11 2026. No macro, syntax, notation, axiom, sorry.
-/
import Derived.Test.YtiogomkonladaaaDoorRows
import GoSem.ClaimSeven
namespace Go.Proofs.YtiogomkonladaaaDoor
namespace Rows

/-- THE TIED CARD OF 'waybilllaw02.FoldNumbers'. -/
def foldNumbersCard : Claim7 := { stood := { row := foldNumbersRow, standIns := [], harness := (true, "54fc3c25a0d5e0101f625ffa1cecb70e05fe5859e3d7cc7ca70bb8393db292e7"), looks := true }, kinds := [], alts := [], laidByText := true, laidKinds := [.handle], laidTests := true, laidLooks := .later }
def FoldNumbersCardSaid : Prop := Claim7.holds Tryd.pinned (.plain (OpenSpec.ofChange foldNumbersSpec)) foldNumbersCard

/-- THE TIED CARD OF 'waybilllaw02.FoldCases'. -/
def foldCasesCard : Claim7 := { stood := { row := foldCasesRow, standIns := [], harness := (true, "54fc3c25a0d5e0101f625ffa1cecb70e05fe5859e3d7cc7ca70bb8393db292e7"), looks := true }, kinds := [], alts := [], laidByText := true, laidKinds := [.data, .pinned], laidTests := true, laidLooks := .later }
def FoldCasesCardSaid : Prop := Claim7.holds Tryd.pinned (.plain (OpenSpec.ofChange foldCasesSpec)) foldCasesCard

/-- THE TIED CARD OF 'waybilllaw02.FoldTexts'. -/
def foldTextsCard : Claim7 := { stood := { row := foldTextsRow, standIns := [], harness := (true, "54fc3c25a0d5e0101f625ffa1cecb70e05fe5859e3d7cc7ca70bb8393db292e7"), looks := true }, kinds := [], alts := [], laidByText := true, laidKinds := [.data, .pinned], laidTests := true, laidLooks := .later }
def FoldTextsCardSaid : Prop := Claim7.holds Tryd.pinned (.plain (OpenSpec.ofChange foldTextsSpec)) foldTextsCard

/-- THE SECOND FORM's CARD OF 'waybilllaw02.FoldNumbers'. -/
def foldNumbersUptoCard : Claim7 := { stood := { row := foldNumbersUptoRow, standIns := [], harness := (true, "54fc3c25a0d5e0101f625ffa1cecb70e05fe5859e3d7cc7ca70bb8393db292e7"), looks := true }, kinds := [], alts := [], laidByText := true, laidKinds := [.handle], laidTests := true, laidLooks := .later }
def FoldNumbersUptoCardSaid : Prop := Claim7.holds Tryd.pinned (.plain (OpenSpec.upto foldNumbersSpec)) foldNumbersUptoCard

/-- THE SECOND FORM's CARD OF 'waybilllaw02.FoldCases'. -/
def foldCasesUptoCard : Claim7 := { stood := { row := foldCasesUptoRow, standIns := [], harness := (true, "54fc3c25a0d5e0101f625ffa1cecb70e05fe5859e3d7cc7ca70bb8393db292e7"), looks := true }, kinds := [], alts := [], laidByText := true, laidKinds := [.data, .pinned], laidTests := true, laidLooks := .later }
def FoldCasesUptoCardSaid : Prop := Claim7.holds Tryd.pinned (.plain (OpenSpec.upto foldCasesSpec)) foldCasesUptoCard

/-- THE SECOND FORM's CARD OF 'waybilllaw02.FoldTexts'. -/
def foldTextsUptoCard : Claim7 := { stood := { row := foldTextsUptoRow, standIns := [], harness := (true, "54fc3c25a0d5e0101f625ffa1cecb70e05fe5859e3d7cc7ca70bb8393db292e7"), looks := true }, kinds := [], alts := [], laidByText := true, laidKinds := [.data, .pinned], laidTests := true, laidLooks := .later }
def FoldTextsUptoCardSaid : Prop := Claim7.holds Tryd.pinned (.plain (OpenSpec.upto foldTextsSpec)) foldTextsUptoCard
end Rows
end Go.Proofs.YtiogomkonladaaaDoor
