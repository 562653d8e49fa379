/-
  DERIVED. GIVEN WITH THE SEED: THE CARDS: each row of YtakcfgmibijdnaaDoorRows.lean that lists a variable, with what it lists TIED to the program's text (the seventh form; the later family's looks); each row that meets fmt, with fmt's text TOLD by the authors' own Lean function (tested against real Go, not proved from fmt's source: count such statements apart). THE CARD IS WHAT COUNTS. Prove the row's statement (the work); the ties are given (YtakcfgmibijdnaaDoorTie.lean); close each card by the builder's one call (the guide's Derived/Test/ToyasCard.lean, 'card_holds'). Laid BY PROGRAM, IN A SANDBOX (cutbox-door.mjs). By AI agents, Wed Nov 11 2026. No macro, syntax, notation, axiom, sorry.
-/
import Derived.Test.YtakcfgmibijdnaaDoorRows
import GoSem.ClaimSeven
namespace Go.Proofs.YtakcfgmibijdnaaDoor
namespace Rows

/-- THE TIED CARD OF 'waybilllaw19.SubstPlain'. -/
def substPlainCard : Claim7 := { stood := { row := substPlainRow, standIns := [], harness := (true, "d0d7889685ffae4d320fd496966e662d6d7a03ce0fc07ef29e903fcaea491005"), looks := true }, kinds := [], alts := [], laidByText := true, laidKinds := [.data, .widerDeep, .pinned], laidTests := true, laidLooks := .later }
def SubstPlainCardSaid : Prop := Claim7.holds Tryd.pinned (.plain (OpenSpec.ofChange substPlainSpec)) substPlainCard

/-- THE TIED CARD OF 'waybilllaw19.SubstVars'. -/
def substVarsCard : Claim7 := { stood := { row := substVarsRow, standIns := [], harness := (true, "d0d7889685ffae4d320fd496966e662d6d7a03ce0fc07ef29e903fcaea491005"), looks := true }, kinds := [], alts := [], laidByText := true, laidKinds := [.data, .handle, .widerDeep, .pinned], laidTests := true, laidLooks := .later }
def SubstVarsCardSaid : Prop := Claim7.holds Tryd.pinned (.plain (OpenSpec.ofChange substVarsSpec)) substVarsCard

/-- THE TIED CARD OF 'waybilllaw12.HexadTexts'. -/
def hexadTextsCard : Claim7 := { stood := { row := hexadTextsRow, standIns := [], harness := (true, "d0d7889685ffae4d320fd496966e662d6d7a03ce0fc07ef29e903fcaea491005"), looks := true }, kinds := [], alts := [], laidByText := true, laidKinds := [.data, .handle, .pinned], laidTests := true, laidLooks := .later }
def HexadTextsCardSaid : Prop := Claim7.holds Tryd.pinned (.plain (OpenSpec.ofChange hexadTextsSpec)) hexadTextsCard

/-- THE TIED CARD OF 'waybilllaw12.HexadMapped'. -/
def hexadMappedCard : Claim7 := { stood := { row := hexadMappedRow, standIns := [], harness := (true, "d0d7889685ffae4d320fd496966e662d6d7a03ce0fc07ef29e903fcaea491005"), looks := true }, kinds := [], alts := [], laidByText := true, laidKinds := [.data, .handle, .pinned], laidTests := true, laidLooks := .later }
def HexadMappedCardSaid : Prop := Claim7.holds Tryd.pinned (.plain (OpenSpec.ofChange hexadMappedSpec)) hexadMappedCard

/-- THE TIED CARD OF 'waybilllaw09.PunyWrites'. -/
def punyWritesCard : Claim7 := { stood := { row := punyWritesRow, standIns := [], harness := (true, "d0d7889685ffae4d320fd496966e662d6d7a03ce0fc07ef29e903fcaea491005"), looks := true }, kinds := [], alts := [], laidByText := true, laidKinds := [.handle], laidTests := true, laidLooks := .later }
def PunyWritesCardSaid : Prop := Claim7.holds Tryd.pinned (.plain (OpenSpec.ofChange punyWritesSpec)) punyWritesCard

/-- THE TIED CARD OF 'waybilllaw09.PunyReads'. -/
def punyReadsCard : Claim7 := { stood := { row := punyReadsRow, standIns := [], harness := (true, "d0d7889685ffae4d320fd496966e662d6d7a03ce0fc07ef29e903fcaea491005"), looks := true }, kinds := [], alts := [], laidByText := true, laidKinds := [.handle], laidTests := true, laidLooks := .later }
def PunyReadsCardSaid : Prop := Claim7.holds Tryd.pinned (.plain (OpenSpec.ofChange punyReadsSpec)) punyReadsCard

/-- THE SECOND FORM's CARD OF 'waybilllaw19.SubstPlain'. -/
def substPlainUptoCard : Claim7 := { stood := { row := substPlainUptoRow, standIns := [], harness := (true, "d0d7889685ffae4d320fd496966e662d6d7a03ce0fc07ef29e903fcaea491005"), looks := true }, kinds := [], alts := [], laidByText := true, laidKinds := [.data, .widerDeep, .pinned], laidTests := true, laidLooks := .later }
def SubstPlainUptoCardSaid : Prop := Claim7.holds Tryd.pinned (.plain (OpenSpec.upto substPlainSpec)) substPlainUptoCard

/-- THE SECOND FORM's CARD OF 'waybilllaw19.SubstVars'. -/
def substVarsUptoCard : Claim7 := { stood := { row := substVarsUptoRow, standIns := [], harness := (true, "d0d7889685ffae4d320fd496966e662d6d7a03ce0fc07ef29e903fcaea491005"), looks := true }, kinds := [], alts := [], laidByText := true, laidKinds := [.data, .handle, .widerDeep, .pinned], laidTests := true, laidLooks := .later }
def SubstVarsUptoCardSaid : Prop := Claim7.holds Tryd.pinned (.plain (OpenSpec.upto substVarsSpec)) substVarsUptoCard

/-- THE SECOND FORM's CARD OF 'waybilllaw12.HexadTexts'. -/
def hexadTextsUptoCard : Claim7 := { stood := { row := hexadTextsUptoRow, standIns := [], harness := (true, "d0d7889685ffae4d320fd496966e662d6d7a03ce0fc07ef29e903fcaea491005"), looks := true }, kinds := [], alts := [], laidByText := true, laidKinds := [.data, .handle, .pinned], laidTests := true, laidLooks := .later }
def HexadTextsUptoCardSaid : Prop := Claim7.holds Tryd.pinned (.plain (OpenSpec.upto hexadTextsSpec)) hexadTextsUptoCard

/-- THE SECOND FORM's CARD OF 'waybilllaw12.HexadMapped'. -/
def hexadMappedUptoCard : Claim7 := { stood := { row := hexadMappedUptoRow, standIns := [], harness := (true, "d0d7889685ffae4d320fd496966e662d6d7a03ce0fc07ef29e903fcaea491005"), looks := true }, kinds := [], alts := [], laidByText := true, laidKinds := [.data, .handle, .pinned], laidTests := true, laidLooks := .later }
def HexadMappedUptoCardSaid : Prop := Claim7.holds Tryd.pinned (.plain (OpenSpec.upto hexadMappedSpec)) hexadMappedUptoCard

/-- THE SECOND FORM's CARD OF 'waybilllaw09.PunyWrites'. -/
def punyWritesUptoCard : Claim7 := { stood := { row := punyWritesUptoRow, standIns := [], harness := (true, "d0d7889685ffae4d320fd496966e662d6d7a03ce0fc07ef29e903fcaea491005"), looks := true }, kinds := [], alts := [], laidByText := true, laidKinds := [.handle], laidTests := true, laidLooks := .later }
def PunyWritesUptoCardSaid : Prop := Claim7.holds Tryd.pinned (.plain (OpenSpec.upto punyWritesSpec)) punyWritesUptoCard

/-- THE SECOND FORM's CARD OF 'waybilllaw09.PunyReads'. -/
def punyReadsUptoCard : Claim7 := { stood := { row := punyReadsUptoRow, standIns := [], harness := (true, "d0d7889685ffae4d320fd496966e662d6d7a03ce0fc07ef29e903fcaea491005"), looks := true }, kinds := [], alts := [], laidByText := true, laidKinds := [.handle], laidTests := true, laidLooks := .later }
def PunyReadsUptoCardSaid : Prop := Claim7.holds Tryd.pinned (.plain (OpenSpec.upto punyReadsSpec)) punyReadsUptoCard
end Rows
end Go.Proofs.YtakcfgmibijdnaaDoor
