/-
  DERIVED. GIVEN WITH THE SEED: THE CARDS: each row of YtipenfeplampeaaDoorRows.lean that lists a variable, with what it lists TIED to the program's text (the seventh form; the later family's looks); each row that meets fmt, with fmt's text TOLD by the authors' own Lean function (tested against real Go, not proved from fmt's source: count such statements apart). THE CARD IS WHAT COUNTS. Prove the row's statement (the work); the ties are given (YtipenfeplampeaaDoorTie.lean); close each card by the builder's one call (the guide's Derived/Test/ToyasCard.lean, 'card_holds'). Laid BY PROGRAM, IN A SANDBOX (cutbox-door.mjs). By AI agents, Wed Nov 11 2026. No macro, syntax, notation, axiom, sorry.
-/
import Derived.Test.YtipenfeplampeaaDoorRows
import GoSem.ClaimSeven
namespace Go.Proofs.YtipenfeplampeaaDoor
namespace Rows

/-- THE TIED CARD OF 'waybilllaw19.SubstVars'. -/
def substVarsCard : Claim7 := { stood := { row := substVarsRow, standIns := [], harness := (true, "6c826ea00f04201157796771b11c939a8888906076488ff4d67ebeff1b5cea2e"), looks := true }, kinds := [], alts := [], laidByText := true, laidKinds := [.data, .handle, .widerDeep, .pinned], laidTests := true, laidLooks := .later }
def SubstVarsCardSaid : Prop := Claim7.holds Tryd.pinned (.plain (OpenSpec.ofChange substVarsSpec)) substVarsCard

/-- THE TIED CARD OF 'waybilllaw19.SubstPlain'. -/
def substPlainCard : Claim7 := { stood := { row := substPlainRow, standIns := [], harness := (true, "6c826ea00f04201157796771b11c939a8888906076488ff4d67ebeff1b5cea2e"), looks := true }, kinds := [], alts := [], laidByText := true, laidKinds := [.data, .widerDeep, .pinned], laidTests := true, laidLooks := .later }
def SubstPlainCardSaid : Prop := Claim7.holds Tryd.pinned (.plain (OpenSpec.ofChange substPlainSpec)) substPlainCard

/-- THE SECOND FORM's CARD OF 'waybilllaw19.SubstVars'. -/
def substVarsUptoCard : Claim7 := { stood := { row := substVarsUptoRow, standIns := [], harness := (true, "6c826ea00f04201157796771b11c939a8888906076488ff4d67ebeff1b5cea2e"), looks := true }, kinds := [], alts := [], laidByText := true, laidKinds := [.data, .handle, .widerDeep, .pinned], laidTests := true, laidLooks := .later }
def SubstVarsUptoCardSaid : Prop := Claim7.holds Tryd.pinned (.plain (OpenSpec.upto substVarsSpec)) substVarsUptoCard

/-- THE SECOND FORM's CARD OF 'waybilllaw19.SubstPlain'. -/
def substPlainUptoCard : Claim7 := { stood := { row := substPlainUptoRow, standIns := [], harness := (true, "6c826ea00f04201157796771b11c939a8888906076488ff4d67ebeff1b5cea2e"), looks := true }, kinds := [], alts := [], laidByText := true, laidKinds := [.data, .widerDeep, .pinned], laidTests := true, laidLooks := .later }
def SubstPlainUptoCardSaid : Prop := Claim7.holds Tryd.pinned (.plain (OpenSpec.upto substPlainSpec)) substPlainUptoCard
end Rows
end Go.Proofs.YtipenfeplampeaaDoor
