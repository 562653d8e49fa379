/-
  DERIVED. GIVEN WITH THE SEED: THE CARDS: each row of YtakognfokahaoaaDoorRows.lean that lists a variable, with what it lists TIED to the program's text (the seventh form; the later family's looks); each row that meets fmt, with fmt's text TOLD by the authors' own Lean function (tested against real Go, not proved from fmt's source: count such statements apart). THE CARD IS WHAT COUNTS. Prove the row's statement (the work); the ties are given (YtakognfokahaoaaDoorTie.lean); close each card by the builder's one call (the guide's Derived/Test/ToyasCard.lean, 'card_holds'). Laid BY PROGRAM, IN A SANDBOX (cutbox-door.mjs). By AI agents, Wed Nov 11 2026. No macro, syntax, notation, axiom, sorry.
-/
import Derived.Test.YtakognfokahaoaaDoorRows
import GoSem.ClaimSeven
namespace Go.Proofs.YtakognfokahaoaaDoor
namespace Rows

/-- THE TIED CARD OF 'waybilllaw01.UtfNext'. -/
def utfNextCard : Claim7 := { stood := { row := utfNextRow, standIns := [], harness := (true, "b2977af3e3b40dcbfa578c7839555aaabcd7b4342ec7ef73ea75ae21e4ed51bd"), looks := true }, kinds := [], alts := [], laidByText := true, laidKinds := [.data, .handle, .pinned], laidTests := true, laidLooks := .later }
def UtfNextCardSaid : Prop := Claim7.holds Tryd.pinned (.plain (OpenSpec.ofChange utfNextSpec)) utfNextCard

/-- THE TIED CARD OF 'waybilllaw01.UtfJoined'. -/
def utfJoinedCard : Claim7 := { stood := { row := utfJoinedRow, standIns := [], harness := (true, "b2977af3e3b40dcbfa578c7839555aaabcd7b4342ec7ef73ea75ae21e4ed51bd"), looks := true }, kinds := [], alts := [], laidByText := true, laidKinds := [.data, .handle, .pinned], laidTests := true, laidLooks := .later }
def UtfJoinedCardSaid : Prop := Claim7.holds Tryd.pinned (.plain (OpenSpec.ofChange utfJoinedSpec)) utfJoinedCard

/-- THE TIED CARD OF 'waybilllaw01.UtfNames'. -/
def utfNamesCard : Claim7 := { stood := { row := utfNamesRow, standIns := [], harness := (true, "b2977af3e3b40dcbfa578c7839555aaabcd7b4342ec7ef73ea75ae21e4ed51bd"), looks := true }, kinds := [], alts := [], laidByText := true, laidKinds := [.data, .handle, .pinned], laidTests := true, laidLooks := .later }
def UtfNamesCardSaid : Prop := Claim7.holds Tryd.pinned (.plain (OpenSpec.ofChange utfNamesSpec)) utfNamesCard

/-- THE TIED CARD OF 'waybilllaw01.UtfHalves'. -/
def utfHalvesCard : Claim7 := { stood := { row := utfHalvesRow, standIns := [], harness := (true, "b2977af3e3b40dcbfa578c7839555aaabcd7b4342ec7ef73ea75ae21e4ed51bd"), looks := true }, kinds := [], alts := [], laidByText := true, laidKinds := [.data, .handle, .pinned], laidTests := true, laidLooks := .later }
def UtfHalvesCardSaid : Prop := Claim7.holds Tryd.pinned (.plain (OpenSpec.ofChange utfHalvesSpec)) utfHalvesCard

/-- THE TIED CARD OF 'waybilllaw01.UtfPuts'. -/
def utfPutsCard : Claim7 := { stood := { row := utfPutsRow, standIns := [], harness := (true, "b2977af3e3b40dcbfa578c7839555aaabcd7b4342ec7ef73ea75ae21e4ed51bd"), looks := true }, kinds := [], alts := [], laidByText := true, laidKinds := [.data, .handle, .pinned], laidTests := true, laidLooks := .later }
def UtfPutsCardSaid : Prop := Claim7.holds Tryd.pinned (.plain (OpenSpec.ofChange utfPutsSpec)) utfPutsCard

/-- THE TIED CARD OF 'waybilllaw01.UtfChars'. -/
def utfCharsCard : Claim7 := { stood := { row := utfCharsRow, standIns := [], harness := (true, "b2977af3e3b40dcbfa578c7839555aaabcd7b4342ec7ef73ea75ae21e4ed51bd"), looks := true }, kinds := [], alts := [], laidByText := true, laidKinds := [.data, .handle, .pinned], laidTests := true, laidLooks := .later }
def UtfCharsCardSaid : Prop := Claim7.holds Tryd.pinned (.plain (OpenSpec.ofChange utfCharsSpec)) utfCharsCard

/-- THE TIED CARD OF 'waybilllaw01.UtfText'. -/
def utfTextCard : Claim7 := { stood := { row := utfTextRow, standIns := [], harness := (true, "b2977af3e3b40dcbfa578c7839555aaabcd7b4342ec7ef73ea75ae21e4ed51bd"), looks := true }, kinds := [], alts := [], laidByText := true, laidKinds := [.data, .handle, .pinned], laidTests := true, laidLooks := .later }
def UtfTextCardSaid : Prop := Claim7.holds Tryd.pinned (.plain (OpenSpec.ofChange utfTextSpec)) utfTextCard

/-- THE SECOND FORM's CARD OF 'waybilllaw01.UtfNext'. -/
def utfNextUptoCard : Claim7 := { stood := { row := utfNextUptoRow, standIns := [], harness := (true, "b2977af3e3b40dcbfa578c7839555aaabcd7b4342ec7ef73ea75ae21e4ed51bd"), looks := true }, kinds := [], alts := [], laidByText := true, laidKinds := [.data, .handle, .pinned], laidTests := true, laidLooks := .later }
def UtfNextUptoCardSaid : Prop := Claim7.holds Tryd.pinned (.plain (OpenSpec.upto utfNextSpec)) utfNextUptoCard

/-- THE SECOND FORM's CARD OF 'waybilllaw01.UtfJoined'. -/
def utfJoinedUptoCard : Claim7 := { stood := { row := utfJoinedUptoRow, standIns := [], harness := (true, "b2977af3e3b40dcbfa578c7839555aaabcd7b4342ec7ef73ea75ae21e4ed51bd"), looks := true }, kinds := [], alts := [], laidByText := true, laidKinds := [.data, .handle, .pinned], laidTests := true, laidLooks := .later }
def UtfJoinedUptoCardSaid : Prop := Claim7.holds Tryd.pinned (.plain (OpenSpec.upto utfJoinedSpec)) utfJoinedUptoCard

/-- THE SECOND FORM's CARD OF 'waybilllaw01.UtfNames'. -/
def utfNamesUptoCard : Claim7 := { stood := { row := utfNamesUptoRow, standIns := [], harness := (true, "b2977af3e3b40dcbfa578c7839555aaabcd7b4342ec7ef73ea75ae21e4ed51bd"), looks := true }, kinds := [], alts := [], laidByText := true, laidKinds := [.data, .handle, .pinned], laidTests := true, laidLooks := .later }
def UtfNamesUptoCardSaid : Prop := Claim7.holds Tryd.pinned (.plain (OpenSpec.upto utfNamesSpec)) utfNamesUptoCard

/-- THE SECOND FORM's CARD OF 'waybilllaw01.UtfHalves'. -/
def utfHalvesUptoCard : Claim7 := { stood := { row := utfHalvesUptoRow, standIns := [], harness := (true, "b2977af3e3b40dcbfa578c7839555aaabcd7b4342ec7ef73ea75ae21e4ed51bd"), looks := true }, kinds := [], alts := [], laidByText := true, laidKinds := [.data, .handle, .pinned], laidTests := true, laidLooks := .later }
def UtfHalvesUptoCardSaid : Prop := Claim7.holds Tryd.pinned (.plain (OpenSpec.upto utfHalvesSpec)) utfHalvesUptoCard

/-- THE SECOND FORM's CARD OF 'waybilllaw01.UtfPuts'. -/
def utfPutsUptoCard : Claim7 := { stood := { row := utfPutsUptoRow, standIns := [], harness := (true, "b2977af3e3b40dcbfa578c7839555aaabcd7b4342ec7ef73ea75ae21e4ed51bd"), looks := true }, kinds := [], alts := [], laidByText := true, laidKinds := [.data, .handle, .pinned], laidTests := true, laidLooks := .later }
def UtfPutsUptoCardSaid : Prop := Claim7.holds Tryd.pinned (.plain (OpenSpec.upto utfPutsSpec)) utfPutsUptoCard

/-- THE SECOND FORM's CARD OF 'waybilllaw01.UtfChars'. -/
def utfCharsUptoCard : Claim7 := { stood := { row := utfCharsUptoRow, standIns := [], harness := (true, "b2977af3e3b40dcbfa578c7839555aaabcd7b4342ec7ef73ea75ae21e4ed51bd"), looks := true }, kinds := [], alts := [], laidByText := true, laidKinds := [.data, .handle, .pinned], laidTests := true, laidLooks := .later }
def UtfCharsUptoCardSaid : Prop := Claim7.holds Tryd.pinned (.plain (OpenSpec.upto utfCharsSpec)) utfCharsUptoCard

/-- THE SECOND FORM's CARD OF 'waybilllaw01.UtfText'. -/
def utfTextUptoCard : Claim7 := { stood := { row := utfTextUptoRow, standIns := [], harness := (true, "b2977af3e3b40dcbfa578c7839555aaabcd7b4342ec7ef73ea75ae21e4ed51bd"), looks := true }, kinds := [], alts := [], laidByText := true, laidKinds := [.data, .handle, .pinned], laidTests := true, laidLooks := .later }
def UtfTextUptoCardSaid : Prop := Claim7.holds Tryd.pinned (.plain (OpenSpec.upto utfTextSpec)) utfTextUptoCard
end Rows
end Go.Proofs.YtakognfokahaoaaDoor
