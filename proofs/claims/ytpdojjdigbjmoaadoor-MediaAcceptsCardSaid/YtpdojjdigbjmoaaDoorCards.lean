/-
  DERIVED. GIVEN WITH THE SEED: THE CARDS: each row of YtpdojjdigbjmoaaDoorRows.lean that lists a variable, with what it lists TIED to the program's text (the seventh form; the later family's looks); each row that meets fmt, with fmt's text TOLD by the authors' own Lean function (tested against real Go, not proved from fmt's source: count such statements apart). THE CARD IS WHAT COUNTS. Prove the row's statement (the work); the ties are given (YtpdojjdigbjmoaaDoorTie.lean); close each card by the builder's one call (the guide's Derived/Test/ToyasCard.lean, 'card_holds'). Laid BY PROGRAM, IN A SANDBOX (cutbox-door.mjs). By AI agents, Wed Nov 11 2026. No macro, syntax, notation, axiom, sorry.
-/
import Derived.Test.YtpdojjdigbjmoaaDoorRows
import GoSem.ClaimSeven
namespace Go.Proofs.YtpdojjdigbjmoaaDoor
namespace Rows

/-- THE TIED CARD OF 'waybilllaw19.SubstPlain'. -/
def substPlainCard : Claim7 := { stood := { row := substPlainRow, standIns := [], harness := (true, "754eeaec58135402e91cbc8fe21514c0e7c97084d4621c94b8cf102399eceb2a"), looks := true }, kinds := [], alts := [], laidByText := true, laidKinds := [.data, .widerDeep, .pinned], laidTests := true, laidLooks := .later }
def SubstPlainCardSaid : Prop := Claim7.holds Tryd.pinned (.plain (OpenSpec.ofChange substPlainSpec)) substPlainCard

/-- THE TIED CARD OF 'waybilllaw19.SubstVars'. -/
def substVarsCard : Claim7 := { stood := { row := substVarsRow, standIns := [], harness := (true, "754eeaec58135402e91cbc8fe21514c0e7c97084d4621c94b8cf102399eceb2a"), looks := true }, kinds := [], alts := [], laidByText := true, laidKinds := [.data, .handle, .widerDeep, .pinned], laidTests := true, laidLooks := .later }
def SubstVarsCardSaid : Prop := Claim7.holds Tryd.pinned (.plain (OpenSpec.ofChange substVarsSpec)) substVarsCard

/-- THE TIED CARD OF 'waybilllaw09.PunyWrites'. -/
def punyWritesCard : Claim7 := { stood := { row := punyWritesRow, standIns := [], harness := (true, "754eeaec58135402e91cbc8fe21514c0e7c97084d4621c94b8cf102399eceb2a"), looks := true }, kinds := [], alts := [], laidByText := true, laidKinds := [.handle], laidTests := true, laidLooks := .later }
def PunyWritesCardSaid : Prop := Claim7.holds Tryd.pinned (.plain (OpenSpec.ofChange punyWritesSpec)) punyWritesCard

/-- THE TIED CARD OF 'waybilllaw09.PunyReads'. -/
def punyReadsCard : Claim7 := { stood := { row := punyReadsRow, standIns := [], harness := (true, "754eeaec58135402e91cbc8fe21514c0e7c97084d4621c94b8cf102399eceb2a"), looks := true }, kinds := [], alts := [], laidByText := true, laidKinds := [.handle], laidTests := true, laidLooks := .later }
def PunyReadsCardSaid : Prop := Claim7.holds Tryd.pinned (.plain (OpenSpec.ofChange punyReadsSpec)) punyReadsCard

/-- THE TIED CARD OF 'waybilllaw17.MediaAccepts'. -/
def mediaAcceptsCard : Claim7 := { stood := { row := mediaAcceptsRow, standIns := [], harness := (true, "754eeaec58135402e91cbc8fe21514c0e7c97084d4621c94b8cf102399eceb2a"), looks := true }, kinds := [], alts := [], laidByText := true, laidKinds := [.data, .handle, .pinned], laidTests := true, laidLooks := .later }
def MediaAcceptsCardSaid : Prop := Claim7.holds Tryd.pinned (.plain (OpenSpec.ofChange mediaAcceptsSpec)) mediaAcceptsCard

/-- THE SECOND FORM's CARD OF 'waybilllaw19.SubstPlain'. -/
def substPlainUptoCard : Claim7 := { stood := { row := substPlainUptoRow, standIns := [], harness := (true, "754eeaec58135402e91cbc8fe21514c0e7c97084d4621c94b8cf102399eceb2a"), looks := true }, kinds := [], alts := [], laidByText := true, laidKinds := [.data, .widerDeep, .pinned], laidTests := true, laidLooks := .later }
def SubstPlainUptoCardSaid : Prop := Claim7.holds Tryd.pinned (.plain (OpenSpec.upto substPlainSpec)) substPlainUptoCard

/-- THE SECOND FORM's CARD OF 'waybilllaw19.SubstVars'. -/
def substVarsUptoCard : Claim7 := { stood := { row := substVarsUptoRow, standIns := [], harness := (true, "754eeaec58135402e91cbc8fe21514c0e7c97084d4621c94b8cf102399eceb2a"), looks := true }, kinds := [], alts := [], laidByText := true, laidKinds := [.data, .handle, .widerDeep, .pinned], laidTests := true, laidLooks := .later }
def SubstVarsUptoCardSaid : Prop := Claim7.holds Tryd.pinned (.plain (OpenSpec.upto substVarsSpec)) substVarsUptoCard

/-- THE SECOND FORM's CARD OF 'waybilllaw09.PunyWrites'. -/
def punyWritesUptoCard : Claim7 := { stood := { row := punyWritesUptoRow, standIns := [], harness := (true, "754eeaec58135402e91cbc8fe21514c0e7c97084d4621c94b8cf102399eceb2a"), looks := true }, kinds := [], alts := [], laidByText := true, laidKinds := [.handle], laidTests := true, laidLooks := .later }
def PunyWritesUptoCardSaid : Prop := Claim7.holds Tryd.pinned (.plain (OpenSpec.upto punyWritesSpec)) punyWritesUptoCard

/-- THE SECOND FORM's CARD OF 'waybilllaw09.PunyReads'. -/
def punyReadsUptoCard : Claim7 := { stood := { row := punyReadsUptoRow, standIns := [], harness := (true, "754eeaec58135402e91cbc8fe21514c0e7c97084d4621c94b8cf102399eceb2a"), looks := true }, kinds := [], alts := [], laidByText := true, laidKinds := [.handle], laidTests := true, laidLooks := .later }
def PunyReadsUptoCardSaid : Prop := Claim7.holds Tryd.pinned (.plain (OpenSpec.upto punyReadsSpec)) punyReadsUptoCard

/-- THE SECOND FORM's CARD OF 'waybilllaw17.MediaAccepts'. -/
def mediaAcceptsUptoCard : Claim7 := { stood := { row := mediaAcceptsUptoRow, standIns := [], harness := (true, "754eeaec58135402e91cbc8fe21514c0e7c97084d4621c94b8cf102399eceb2a"), looks := true }, kinds := [], alts := [], laidByText := true, laidKinds := [.data, .handle, .pinned], laidTests := true, laidLooks := .later }
def MediaAcceptsUptoCardSaid : Prop := Claim7.holds Tryd.pinned (.plain (OpenSpec.upto mediaAcceptsSpec)) mediaAcceptsUptoCard
end Rows
end Go.Proofs.YtpdojjdigbjmoaaDoor
