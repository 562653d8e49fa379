/-
  DERIVED. GIVEN WITH THE SEED: THE CARDS: each row of YtibhohpamnpkcaaGreatDoorRows.lean that lists a variable, with what it lists TIED to the program's text (the seventh form; the later family's looks); each row that meets fmt, with fmt's text TOLD by the authors' own Lean function (tested against real Go, not proved from fmt's source: count such statements apart). THE CARD IS WHAT COUNTS. Prove the row's statement (the work); the ties are given (YtibhohpamnpkcaaGreatDoorTie.lean); close each card by the builder's one call (the guide's Derived/Test/ToyasCard.lean, 'card_holds'). Laid BY PROGRAM, IN A SANDBOX (cutbox-door.mjs). By AI agents, Wed Nov 11 2026. No macro, syntax, notation, axiom, sorry.
-/
import Derived.Test.YtibhohpamnpkcaaGreatDoorRows
import GoSem.ClaimSeven
namespace Go.Proofs.YtibhohpamnpkcaaGreatDoor
namespace Rows

/-- THE TIED CARD OF 'waybilllaw26.WirePlays'. -/
def wirePlaysCard : Claim7 := { stood := { row := wirePlaysRow, standIns := [], harness := (true, "f6c64bb66c6f23d80cbf6e8dea2c1197896df58d3aafba07e5ada7d0f5691b50"), looks := true }, kinds := [], alts := [], laidByText := true, laidKinds := [.data, .handle, .pinned], laidTests := true, laidLooks := .later }
def WirePlaysCardSaid : Prop := Claim7.holds Tryz.pinned (.plain (OpenSpec.ofChange wirePlaysSpec)) wirePlaysCard

/-- THE TIED CARD OF 'waybilllaw21.RouteOrder'. -/
def routeOrderCard : Claim7 := { stood := { row := routeOrderRow, standIns := [], harness := (true, "f6c64bb66c6f23d80cbf6e8dea2c1197896df58d3aafba07e5ada7d0f5691b50"), looks := true }, kinds := [], alts := [], laidByText := true, laidKinds := [.data, .handle, .widerDeep, .pinned], laidTests := true, laidLooks := .later }
def RouteOrderCardSaid : Prop := Claim7.holds Tryz.pinned (.plain (OpenSpec.ofChange routeOrderSpec)) routeOrderCard

/-- THE SECOND FORM's CARD OF 'waybilllaw26.WirePlays'. -/
def wirePlaysUptoCard : Claim7 := { stood := { row := wirePlaysUptoRow, standIns := [], harness := (true, "f6c64bb66c6f23d80cbf6e8dea2c1197896df58d3aafba07e5ada7d0f5691b50"), looks := true }, kinds := [], alts := [], laidByText := true, laidKinds := [.data, .handle, .pinned], laidTests := true, laidLooks := .later }
def WirePlaysUptoCardSaid : Prop := Claim7.holds Tryz.pinned (.plain (OpenSpec.upto wirePlaysSpec)) wirePlaysUptoCard

/-- THE SECOND FORM's CARD OF 'waybilllaw21.RouteOrder'. -/
def routeOrderUptoCard : Claim7 := { stood := { row := routeOrderUptoRow, standIns := [], harness := (true, "f6c64bb66c6f23d80cbf6e8dea2c1197896df58d3aafba07e5ada7d0f5691b50"), looks := true }, kinds := [], alts := [], laidByText := true, laidKinds := [.data, .handle, .widerDeep, .pinned], laidTests := true, laidLooks := .later }
def RouteOrderUptoCardSaid : Prop := Claim7.holds Tryz.pinned (.plain (OpenSpec.upto routeOrderSpec)) routeOrderUptoCard
end Rows
end Go.Proofs.YtibhohpamnpkcaaGreatDoor
