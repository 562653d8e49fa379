/-
  DERIVED. GIVEN WITH THE SEED: THE CARDS: each row of YtajpbfffpnbhpaaDoorRows.lean that lists a variable, with what it lists TIED to the program's text (the seventh form; the later family's looks); each row that meets fmt, with fmt's text TOLD by the authors' own Lean function (tested against real Go, not proved from fmt's source: count such statements apart). THE CARD IS WHAT COUNTS. Prove the row's statement (the work); the ties are given (YtajpbfffpnbhpaaDoorTie.lean); close each card by the builder's one call (the guide's Derived/Test/ToyasCard.lean, 'card_holds'). Laid BY PROGRAM, IN A SANDBOX (cutbox-door.mjs). By AI agents, Wed Nov 11 2026. No macro, syntax, notation, axiom, sorry.
-/
import Derived.Test.YtajpbfffpnbhpaaDoorRows
import GoSem.ClaimSeven
namespace Go.Proofs.YtajpbfffpnbhpaaDoor
namespace Rows

/-- THE TIED CARD OF 'waybilllaw03.PercentReads'. -/
def percentReadsCard : Claim7 := { stood := { row := percentReadsRow, standIns := [], harness := (true, "119d411f894e08cc2fd80401c1ed245d929ba3f668d26c449b1930cfc56198a6"), looks := true }, kinds := [], alts := [], laidByText := true, laidKinds := [.handle], laidTests := true, laidLooks := .later }
def PercentReadsCardSaid : Prop := Claim7.holds Tryd.pinned (.plain (OpenSpec.ofChange percentReadsSpec)) percentReadsCard

/-- THE TIED CARD OF 'waybilllaw03.PercentWrites'. -/
def percentWritesCard : Claim7 := { stood := { row := percentWritesRow, standIns := [], harness := (true, "119d411f894e08cc2fd80401c1ed245d929ba3f668d26c449b1930cfc56198a6"), looks := true }, kinds := [], alts := [], laidByText := true, laidKinds := [.handle], laidTests := true, laidLooks := .later }
def PercentWritesCardSaid : Prop := Claim7.holds Tryd.pinned (.plain (OpenSpec.ofChange percentWritesSpec)) percentWritesCard

/-- THE TIED CARD OF 'waybilllaw03.PercentNormal'. -/
def percentNormalCard : Claim7 := { stood := { row := percentNormalRow, standIns := [], harness := (true, "119d411f894e08cc2fd80401c1ed245d929ba3f668d26c449b1930cfc56198a6"), looks := true }, kinds := [], alts := [], laidByText := true, laidKinds := [.handle], laidTests := true, laidLooks := .later }
def PercentNormalCardSaid : Prop := Claim7.holds Tryd.pinned (.plain (OpenSpec.ofChange percentNormalSpec)) percentNormalCard

/-- THE TIED CARD OF 'waybilllaw03.PercentBytes'. -/
def percentBytesCard : Claim7 := { stood := { row := percentBytesRow, standIns := [], harness := (true, "119d411f894e08cc2fd80401c1ed245d929ba3f668d26c449b1930cfc56198a6"), looks := true }, kinds := [], alts := [], laidByText := true, laidKinds := [.handle], laidTests := true, laidLooks := .later }
def PercentBytesCardSaid : Prop := Claim7.holds Tryd.pinned (.plain (OpenSpec.ofChange percentBytesSpec)) percentBytesCard

/-- THE SECOND FORM's CARD OF 'waybilllaw03.PercentReads'. -/
def percentReadsUptoCard : Claim7 := { stood := { row := percentReadsUptoRow, standIns := [], harness := (true, "119d411f894e08cc2fd80401c1ed245d929ba3f668d26c449b1930cfc56198a6"), looks := true }, kinds := [], alts := [], laidByText := true, laidKinds := [.handle], laidTests := true, laidLooks := .later }
def PercentReadsUptoCardSaid : Prop := Claim7.holds Tryd.pinned (.plain (OpenSpec.upto percentReadsSpec)) percentReadsUptoCard

/-- THE SECOND FORM's CARD OF 'waybilllaw03.PercentWrites'. -/
def percentWritesUptoCard : Claim7 := { stood := { row := percentWritesUptoRow, standIns := [], harness := (true, "119d411f894e08cc2fd80401c1ed245d929ba3f668d26c449b1930cfc56198a6"), looks := true }, kinds := [], alts := [], laidByText := true, laidKinds := [.handle], laidTests := true, laidLooks := .later }
def PercentWritesUptoCardSaid : Prop := Claim7.holds Tryd.pinned (.plain (OpenSpec.upto percentWritesSpec)) percentWritesUptoCard

/-- THE SECOND FORM's CARD OF 'waybilllaw03.PercentNormal'. -/
def percentNormalUptoCard : Claim7 := { stood := { row := percentNormalUptoRow, standIns := [], harness := (true, "119d411f894e08cc2fd80401c1ed245d929ba3f668d26c449b1930cfc56198a6"), looks := true }, kinds := [], alts := [], laidByText := true, laidKinds := [.handle], laidTests := true, laidLooks := .later }
def PercentNormalUptoCardSaid : Prop := Claim7.holds Tryd.pinned (.plain (OpenSpec.upto percentNormalSpec)) percentNormalUptoCard

/-- THE SECOND FORM's CARD OF 'waybilllaw03.PercentBytes'. -/
def percentBytesUptoCard : Claim7 := { stood := { row := percentBytesUptoRow, standIns := [], harness := (true, "119d411f894e08cc2fd80401c1ed245d929ba3f668d26c449b1930cfc56198a6"), looks := true }, kinds := [], alts := [], laidByText := true, laidKinds := [.handle], laidTests := true, laidLooks := .later }
def PercentBytesUptoCardSaid : Prop := Claim7.holds Tryd.pinned (.plain (OpenSpec.upto percentBytesSpec)) percentBytesUptoCard
end Rows
end Go.Proofs.YtajpbfffpnbhpaaDoor
