/-
  DERIVED. GIVEN WITH THE SEED: THE CARDS: each row of YtameipbnobaoeaaDoorRows.lean that lists a variable, with what it lists TIED to the program's text (the seventh form; the later family's looks); each row that meets fmt, with fmt's text TOLD by the authors' own Lean function (tested against real Go, not proved from fmt's source: count such statements apart). THE CARD IS WHAT COUNTS. Prove the row's statement (the work); the ties are given (YtameipbnobaoeaaDoorTie.lean); close each card by the builder's one call (the guide's Derived/Test/ToyasCard.lean, 'card_holds'). Laid BY PROGRAM, IN A SANDBOX (cutbox-door.mjs). By AI agents, Wed Nov 11 2026. No macro, syntax, notation, axiom, sorry.
-/
import Derived.Test.YtameipbnobaoeaaDoorRows
import GoSem.ClaimSeven
namespace Go.Proofs.YtameipbnobaoeaaDoor
namespace Rows

/-- THE TIED CARD OF 'waybilllaw12.HexadTexts'. -/
def hexadTextsCard : Claim7 := { stood := { row := hexadTextsRow, standIns := [], harness := (true, "523a23749313316eac9cbf6aa888005bed513c6e958a0bdc83c63fc0d00cf5d1"), looks := true }, kinds := [], alts := [], laidByText := true, laidKinds := [.data, .handle, .pinned], laidTests := true, laidLooks := .later }
def HexadTextsCardSaid : Prop := Claim7.holds Tryd.pinned (.plain (OpenSpec.ofChange hexadTextsSpec)) hexadTextsCard

/-- THE TIED CARD OF 'waybilllaw12.HexadMapped'. -/
def hexadMappedCard : Claim7 := { stood := { row := hexadMappedRow, standIns := [], harness := (true, "523a23749313316eac9cbf6aa888005bed513c6e958a0bdc83c63fc0d00cf5d1"), looks := true }, kinds := [], alts := [], laidByText := true, laidKinds := [.data, .handle, .pinned], laidTests := true, laidLooks := .later }
def HexadMappedCardSaid : Prop := Claim7.holds Tryd.pinned (.plain (OpenSpec.ofChange hexadMappedSpec)) hexadMappedCard

/-- THE SECOND FORM's CARD OF 'waybilllaw12.HexadTexts'. -/
def hexadTextsUptoCard : Claim7 := { stood := { row := hexadTextsUptoRow, standIns := [], harness := (true, "523a23749313316eac9cbf6aa888005bed513c6e958a0bdc83c63fc0d00cf5d1"), looks := true }, kinds := [], alts := [], laidByText := true, laidKinds := [.data, .handle, .pinned], laidTests := true, laidLooks := .later }
def HexadTextsUptoCardSaid : Prop := Claim7.holds Tryd.pinned (.plain (OpenSpec.upto hexadTextsSpec)) hexadTextsUptoCard

/-- THE SECOND FORM's CARD OF 'waybilllaw12.HexadMapped'. -/
def hexadMappedUptoCard : Claim7 := { stood := { row := hexadMappedUptoRow, standIns := [], harness := (true, "523a23749313316eac9cbf6aa888005bed513c6e958a0bdc83c63fc0d00cf5d1"), looks := true }, kinds := [], alts := [], laidByText := true, laidKinds := [.data, .handle, .pinned], laidTests := true, laidLooks := .later }
def HexadMappedUptoCardSaid : Prop := Claim7.holds Tryd.pinned (.plain (OpenSpec.upto hexadMappedSpec)) hexadMappedUptoCard
end Rows
end Go.Proofs.YtameipbnobaoeaaDoor
