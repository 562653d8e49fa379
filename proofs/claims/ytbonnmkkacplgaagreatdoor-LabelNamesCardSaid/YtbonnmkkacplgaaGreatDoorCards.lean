/-
  DERIVED. GIVEN WITH THE SEED: THE CARDS: each row of YtbonnmkkacplgaaGreatDoorRows.lean that lists a variable, with what it lists TIED to the program's text (the seventh form; the later family's looks); each row that meets fmt, with fmt's text TOLD by the authors' own Lean function (tested against real Go, not proved from fmt's source: count such statements apart). THE CARD IS WHAT COUNTS. Prove the row's statement (the work); the ties are given (YtbonnmkkacplgaaGreatDoorTie.lean); close each card by the builder's one call (the guide's Derived/Test/ToyasCard.lean, 'card_holds'). Laid BY PROGRAM, IN A SANDBOX (cutbox-door.mjs). By AI agents, Wed Nov 11 2026. No macro, syntax, notation, axiom, sorry.
-/
import Derived.Test.YtbonnmkkacplgaaGreatDoorRows
import GoSem.ClaimSeven
namespace Go.Proofs.YtbonnmkkacplgaaGreatDoor
namespace Rows

/-- THE TIED CARD OF 'waybilllaw10.LabelASCII'. -/
def labelASCIICard : Claim7 := { stood := { row := labelASCIIRow, standIns := [], harness := (true, "dae853a0d19d26d3f2f9ef2570422070943ef982d8be8b92b5f0e046f4bf5ead"), looks := true }, kinds := [], alts := [], laidByText := true, laidKinds := [.data, .handle, .data, .pinned], laidTests := true, laidLooks := .later }
def LabelASCIICardSaid : Prop := Claim7.holds Tryz.pinned (.plain (OpenSpec.ofChange labelASCIISpec)) labelASCIICard

/-- THE TIED CARD OF 'waybilllaw10.LabelNames'. -/
def labelNamesCard : Claim7 := { stood := { row := labelNamesRow, standIns := [], harness := (true, "dae853a0d19d26d3f2f9ef2570422070943ef982d8be8b92b5f0e046f4bf5ead"), looks := true }, kinds := [], alts := [], laidByText := true, laidKinds := [.data, .handle, .data, .pinned], laidTests := true, laidLooks := .later }
def LabelNamesCardSaid : Prop := Claim7.holds Tryz.pinned (.plain (OpenSpec.ofChange labelNamesSpec)) labelNamesCard

/-- THE TIED CARD OF 'waybilllaw10.LabelChars'. -/
def labelCharsCard : Claim7 := { stood := { row := labelCharsRow, standIns := [], harness := (true, "dae853a0d19d26d3f2f9ef2570422070943ef982d8be8b92b5f0e046f4bf5ead"), looks := true }, kinds := [], alts := [], laidByText := true, laidKinds := [.data, .handle, .data, .pinned], laidTests := true, laidLooks := .later }
def LabelCharsCardSaid : Prop := Claim7.holds Tryz.pinned (.plain (OpenSpec.ofChange labelCharsSpec)) labelCharsCard

/-- THE TIED CARD OF 'waybilllaw10.LabelRight'. -/
def labelRightCard : Claim7 := { stood := { row := labelRightRow, standIns := [], harness := (true, "dae853a0d19d26d3f2f9ef2570422070943ef982d8be8b92b5f0e046f4bf5ead"), looks := true }, kinds := [], alts := [], laidByText := true, laidKinds := [.data, .handle, .data, .pinned], laidTests := true, laidLooks := .later }
def LabelRightCardSaid : Prop := Claim7.holds Tryz.pinned (.plain (OpenSpec.ofChange labelRightSpec)) labelRightCard

/-- THE TIED CARD OF 'waybilllaw10.LabelParts'. -/
def labelPartsCard : Claim7 := { stood := { row := labelPartsRow, standIns := [], harness := (true, "dae853a0d19d26d3f2f9ef2570422070943ef982d8be8b92b5f0e046f4bf5ead"), looks := true }, kinds := [], alts := [], laidByText := true, laidKinds := [.data, .handle, .data, .pinned], laidTests := true, laidLooks := .later }
def LabelPartsCardSaid : Prop := Claim7.holds Tryz.pinned (.plain (OpenSpec.ofChange labelPartsSpec)) labelPartsCard

/-- THE TIED CARD OF 'waybilllaw10.LabelJoined'. -/
def labelJoinedCard : Claim7 := { stood := { row := labelJoinedRow, standIns := [], harness := (true, "dae853a0d19d26d3f2f9ef2570422070943ef982d8be8b92b5f0e046f4bf5ead"), looks := true }, kinds := [], alts := [], laidByText := true, laidKinds := [.data, .handle, .data, .pinned], laidTests := true, laidLooks := .later }
def LabelJoinedCardSaid : Prop := Claim7.holds Tryz.pinned (.plain (OpenSpec.ofChange labelJoinedSpec)) labelJoinedCard

/-- THE SECOND FORM's CARD OF 'waybilllaw10.LabelASCII'. -/
def labelASCIIUptoCard : Claim7 := { stood := { row := labelASCIIUptoRow, standIns := [], harness := (true, "dae853a0d19d26d3f2f9ef2570422070943ef982d8be8b92b5f0e046f4bf5ead"), looks := true }, kinds := [], alts := [], laidByText := true, laidKinds := [.data, .handle, .data, .pinned], laidTests := true, laidLooks := .later }
def LabelASCIIUptoCardSaid : Prop := Claim7.holds Tryz.pinned (.plain (OpenSpec.upto labelASCIISpec)) labelASCIIUptoCard

/-- THE SECOND FORM's CARD OF 'waybilllaw10.LabelNames'. -/
def labelNamesUptoCard : Claim7 := { stood := { row := labelNamesUptoRow, standIns := [], harness := (true, "dae853a0d19d26d3f2f9ef2570422070943ef982d8be8b92b5f0e046f4bf5ead"), looks := true }, kinds := [], alts := [], laidByText := true, laidKinds := [.data, .handle, .data, .pinned], laidTests := true, laidLooks := .later }
def LabelNamesUptoCardSaid : Prop := Claim7.holds Tryz.pinned (.plain (OpenSpec.upto labelNamesSpec)) labelNamesUptoCard

/-- THE SECOND FORM's CARD OF 'waybilllaw10.LabelChars'. -/
def labelCharsUptoCard : Claim7 := { stood := { row := labelCharsUptoRow, standIns := [], harness := (true, "dae853a0d19d26d3f2f9ef2570422070943ef982d8be8b92b5f0e046f4bf5ead"), looks := true }, kinds := [], alts := [], laidByText := true, laidKinds := [.data, .handle, .data, .pinned], laidTests := true, laidLooks := .later }
def LabelCharsUptoCardSaid : Prop := Claim7.holds Tryz.pinned (.plain (OpenSpec.upto labelCharsSpec)) labelCharsUptoCard

/-- THE SECOND FORM's CARD OF 'waybilllaw10.LabelRight'. -/
def labelRightUptoCard : Claim7 := { stood := { row := labelRightUptoRow, standIns := [], harness := (true, "dae853a0d19d26d3f2f9ef2570422070943ef982d8be8b92b5f0e046f4bf5ead"), looks := true }, kinds := [], alts := [], laidByText := true, laidKinds := [.data, .handle, .data, .pinned], laidTests := true, laidLooks := .later }
def LabelRightUptoCardSaid : Prop := Claim7.holds Tryz.pinned (.plain (OpenSpec.upto labelRightSpec)) labelRightUptoCard

/-- THE SECOND FORM's CARD OF 'waybilllaw10.LabelParts'. -/
def labelPartsUptoCard : Claim7 := { stood := { row := labelPartsUptoRow, standIns := [], harness := (true, "dae853a0d19d26d3f2f9ef2570422070943ef982d8be8b92b5f0e046f4bf5ead"), looks := true }, kinds := [], alts := [], laidByText := true, laidKinds := [.data, .handle, .data, .pinned], laidTests := true, laidLooks := .later }
def LabelPartsUptoCardSaid : Prop := Claim7.holds Tryz.pinned (.plain (OpenSpec.upto labelPartsSpec)) labelPartsUptoCard

/-- THE SECOND FORM's CARD OF 'waybilllaw10.LabelJoined'. -/
def labelJoinedUptoCard : Claim7 := { stood := { row := labelJoinedUptoRow, standIns := [], harness := (true, "dae853a0d19d26d3f2f9ef2570422070943ef982d8be8b92b5f0e046f4bf5ead"), looks := true }, kinds := [], alts := [], laidByText := true, laidKinds := [.data, .handle, .data, .pinned], laidTests := true, laidLooks := .later }
def LabelJoinedUptoCardSaid : Prop := Claim7.holds Tryz.pinned (.plain (OpenSpec.upto labelJoinedSpec)) labelJoinedUptoCard
end Rows
end Go.Proofs.YtbonnmkkacplgaaGreatDoor
