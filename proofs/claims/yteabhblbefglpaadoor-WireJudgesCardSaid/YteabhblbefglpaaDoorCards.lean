/-
  DERIVED. GIVEN WITH THE SEED: THE CARDS: each row of YteabhblbefglpaaDoorRows.lean that lists a variable, with what it lists TIED to the program's text (the seventh form; the later family's looks); each row that meets fmt, with fmt's text TOLD by the authors' own Lean function (tested against real Go, not proved from fmt's source: count such statements apart). THE CARD IS WHAT COUNTS. Prove the row's statement (the work); the ties are given (YteabhblbefglpaaDoorTie.lean); close each card by the builder's one call (the guide's Derived/Test/ToyasCard.lean, 'card_holds'). Laid BY PROGRAM, IN A SANDBOX (cutbox-door.mjs). By AI agents, Wed Nov 11 2026. No macro, syntax, notation, axiom, sorry.
-/
import Derived.Test.YteabhblbefglpaaDoorRows
import GoSem.ClaimSeven
namespace Go.Proofs.YteabhblbefglpaaDoor
namespace Rows

/-- THE TIED CARD OF 'waybilllaw26.WireJudges'. -/
def wireJudgesCard : Claim7 := { stood := { row := wireJudgesRow, standIns := [], harness := (true, "6aeef30d5685bcd1ebe58a5c842de1e5e35cf20f64e06730db3e583dd6978877"), looks := true }, kinds := [], alts := [], laidByText := true, laidKinds := [.data, .handle, .pinned], laidTests := true, laidLooks := .later }
def WireJudgesCardSaid : Prop := Claim7.holds Tryd.pinned (.plain (OpenSpec.ofChange wireJudgesSpec)) wireJudgesCard

/-- THE TIED CARD OF 'waybilllaw26.WireStatus'. -/
def wireStatusCard : Claim7 := { stood := { row := wireStatusRow, standIns := [], harness := (true, "6aeef30d5685bcd1ebe58a5c842de1e5e35cf20f64e06730db3e583dd6978877"), looks := true }, kinds := [], alts := [], laidByText := true, laidKinds := [.data, .handle, .pinned], laidTests := true, laidLooks := .later }
def WireStatusCardSaid : Prop := Claim7.holds Tryd.pinned (.plain (OpenSpec.ofChange wireStatusSpec)) wireStatusCard

/-- THE TIED CARD OF 'waybilllaw26.WireOnce'. -/
def wireOnceCard : Claim7 := { stood := { row := wireOnceRow, standIns := [], harness := (true, "6aeef30d5685bcd1ebe58a5c842de1e5e35cf20f64e06730db3e583dd6978877"), looks := true }, kinds := [], alts := [], laidByText := true, laidKinds := [.data, .handle, .pinned], laidTests := true, laidLooks := .later }
def WireOnceCardSaid : Prop := Claim7.holds Tryd.pinned (.plain (OpenSpec.ofChange wireOnceSpec)) wireOnceCard

/-- THE TIED CARD OF 'waybilllaw16.QueryReads'. -/
def queryReadsCard : Claim7 := { stood := { row := queryReadsRow, standIns := [], harness := (true, "6aeef30d5685bcd1ebe58a5c842de1e5e35cf20f64e06730db3e583dd6978877"), looks := true }, kinds := [], alts := [], laidByText := true, laidKinds := [.data, .handle, .pinned], laidTests := true, laidLooks := .later }
def QueryReadsCardSaid : Prop := Claim7.holds Tryd.pinned (.plain (OpenSpec.ofChange queryReadsSpec)) queryReadsCard

/-- THE TIED CARD OF 'waybilllaw16.QueryJoined'. -/
def queryJoinedCard : Claim7 := { stood := { row := queryJoinedRow, standIns := [], harness := (true, "6aeef30d5685bcd1ebe58a5c842de1e5e35cf20f64e06730db3e583dd6978877"), looks := true }, kinds := [], alts := [], laidByText := true, laidKinds := [.data, .handle, .pinned], laidTests := true, laidLooks := .later }
def QueryJoinedCardSaid : Prop := Claim7.holds Tryd.pinned (.plain (OpenSpec.ofChange queryJoinedSpec)) queryJoinedCard

/-- THE TIED CARD OF 'waybilllaw18.FreshLess'. -/
def freshLessCard : Claim7 := { stood := { row := freshLessRow, standIns := [], harness := (true, "6aeef30d5685bcd1ebe58a5c842de1e5e35cf20f64e06730db3e583dd6978877"), looks := true }, kinds := [], alts := [], laidByText := true, laidKinds := [.data, .pinned], laidTests := true, laidLooks := .later }
def FreshLessCardSaid : Prop := Claim7.holds Tryd.pinned (.plain (OpenSpec.ofChange freshLessSpec)) freshLessCard

/-- THE TIED CARD OF 'waybilllaw18.FreshWaits'. -/
def freshWaitsCard : Claim7 := { stood := { row := freshWaitsRow, standIns := [], harness := (true, "6aeef30d5685bcd1ebe58a5c842de1e5e35cf20f64e06730db3e583dd6978877"), looks := true }, kinds := [], alts := [], laidByText := true, laidKinds := [.data, .pinned], laidTests := true, laidLooks := .later }
def FreshWaitsCardSaid : Prop := Claim7.holds Tryd.pinned (.plain (OpenSpec.ofChange freshWaitsSpec)) freshWaitsCard

/-- THE TIED CARD OF 'waybilllaw18.FreshGrows'. -/
def freshGrowsCard : Claim7 := { stood := { row := freshGrowsRow, standIns := [], harness := (true, "6aeef30d5685bcd1ebe58a5c842de1e5e35cf20f64e06730db3e583dd6978877"), looks := true }, kinds := [], alts := [], laidByText := true, laidKinds := [.data, .pinned], laidTests := true, laidLooks := .later }
def FreshGrowsCardSaid : Prop := Claim7.holds Tryd.pinned (.plain (OpenSpec.ofChange freshGrowsSpec)) freshGrowsCard

/-- THE TIED CARD OF 'waybilllaw16.QueryMore'. -/
def queryMoreCard : Claim7 := { stood := { row := queryMoreRow, standIns := [], harness := (true, "6aeef30d5685bcd1ebe58a5c842de1e5e35cf20f64e06730db3e583dd6978877"), looks := true }, kinds := [], alts := [], laidByText := true, laidKinds := [.data, .handle, .pinned], laidTests := true, laidLooks := .later }
def QueryMoreCardSaid : Prop := Claim7.holds Tryd.pinned (.plain (OpenSpec.ofChange queryMoreSpec)) queryMoreCard

/-- THE TIED CARD OF 'waybilllaw16.QueryFinds'. -/
def queryFindsCard : Claim7 := { stood := { row := queryFindsRow, standIns := [], harness := (true, "6aeef30d5685bcd1ebe58a5c842de1e5e35cf20f64e06730db3e583dd6978877"), looks := true }, kinds := [], alts := [], laidByText := true, laidKinds := [.data, .handle, .pinned], laidTests := true, laidLooks := .later }
def QueryFindsCardSaid : Prop := Claim7.holds Tryd.pinned (.plain (OpenSpec.ofChange queryFindsSpec)) queryFindsCard

/-- THE SECOND FORM's CARD OF 'waybilllaw26.WireJudges'. -/
def wireJudgesUptoCard : Claim7 := { stood := { row := wireJudgesUptoRow, standIns := [], harness := (true, "6aeef30d5685bcd1ebe58a5c842de1e5e35cf20f64e06730db3e583dd6978877"), looks := true }, kinds := [], alts := [], laidByText := true, laidKinds := [.data, .handle, .pinned], laidTests := true, laidLooks := .later }
def WireJudgesUptoCardSaid : Prop := Claim7.holds Tryd.pinned (.plain (OpenSpec.upto wireJudgesSpec)) wireJudgesUptoCard

/-- THE SECOND FORM's CARD OF 'waybilllaw26.WireStatus'. -/
def wireStatusUptoCard : Claim7 := { stood := { row := wireStatusUptoRow, standIns := [], harness := (true, "6aeef30d5685bcd1ebe58a5c842de1e5e35cf20f64e06730db3e583dd6978877"), looks := true }, kinds := [], alts := [], laidByText := true, laidKinds := [.data, .handle, .pinned], laidTests := true, laidLooks := .later }
def WireStatusUptoCardSaid : Prop := Claim7.holds Tryd.pinned (.plain (OpenSpec.upto wireStatusSpec)) wireStatusUptoCard

/-- THE SECOND FORM's CARD OF 'waybilllaw26.WireOnce'. -/
def wireOnceUptoCard : Claim7 := { stood := { row := wireOnceUptoRow, standIns := [], harness := (true, "6aeef30d5685bcd1ebe58a5c842de1e5e35cf20f64e06730db3e583dd6978877"), looks := true }, kinds := [], alts := [], laidByText := true, laidKinds := [.data, .handle, .pinned], laidTests := true, laidLooks := .later }
def WireOnceUptoCardSaid : Prop := Claim7.holds Tryd.pinned (.plain (OpenSpec.upto wireOnceSpec)) wireOnceUptoCard

/-- THE SECOND FORM's CARD OF 'waybilllaw16.QueryReads'. -/
def queryReadsUptoCard : Claim7 := { stood := { row := queryReadsUptoRow, standIns := [], harness := (true, "6aeef30d5685bcd1ebe58a5c842de1e5e35cf20f64e06730db3e583dd6978877"), looks := true }, kinds := [], alts := [], laidByText := true, laidKinds := [.data, .handle, .pinned], laidTests := true, laidLooks := .later }
def QueryReadsUptoCardSaid : Prop := Claim7.holds Tryd.pinned (.plain (OpenSpec.upto queryReadsSpec)) queryReadsUptoCard

/-- THE SECOND FORM's CARD OF 'waybilllaw16.QueryJoined'. -/
def queryJoinedUptoCard : Claim7 := { stood := { row := queryJoinedUptoRow, standIns := [], harness := (true, "6aeef30d5685bcd1ebe58a5c842de1e5e35cf20f64e06730db3e583dd6978877"), looks := true }, kinds := [], alts := [], laidByText := true, laidKinds := [.data, .handle, .pinned], laidTests := true, laidLooks := .later }
def QueryJoinedUptoCardSaid : Prop := Claim7.holds Tryd.pinned (.plain (OpenSpec.upto queryJoinedSpec)) queryJoinedUptoCard

/-- THE SECOND FORM's CARD OF 'waybilllaw18.FreshLess'. -/
def freshLessUptoCard : Claim7 := { stood := { row := freshLessUptoRow, standIns := [], harness := (true, "6aeef30d5685bcd1ebe58a5c842de1e5e35cf20f64e06730db3e583dd6978877"), looks := true }, kinds := [], alts := [], laidByText := true, laidKinds := [.data, .pinned], laidTests := true, laidLooks := .later }
def FreshLessUptoCardSaid : Prop := Claim7.holds Tryd.pinned (.plain (OpenSpec.upto freshLessSpec)) freshLessUptoCard

/-- THE SECOND FORM's CARD OF 'waybilllaw18.FreshWaits'. -/
def freshWaitsUptoCard : Claim7 := { stood := { row := freshWaitsUptoRow, standIns := [], harness := (true, "6aeef30d5685bcd1ebe58a5c842de1e5e35cf20f64e06730db3e583dd6978877"), looks := true }, kinds := [], alts := [], laidByText := true, laidKinds := [.data, .pinned], laidTests := true, laidLooks := .later }
def FreshWaitsUptoCardSaid : Prop := Claim7.holds Tryd.pinned (.plain (OpenSpec.upto freshWaitsSpec)) freshWaitsUptoCard

/-- THE SECOND FORM's CARD OF 'waybilllaw18.FreshGrows'. -/
def freshGrowsUptoCard : Claim7 := { stood := { row := freshGrowsUptoRow, standIns := [], harness := (true, "6aeef30d5685bcd1ebe58a5c842de1e5e35cf20f64e06730db3e583dd6978877"), looks := true }, kinds := [], alts := [], laidByText := true, laidKinds := [.data, .pinned], laidTests := true, laidLooks := .later }
def FreshGrowsUptoCardSaid : Prop := Claim7.holds Tryd.pinned (.plain (OpenSpec.upto freshGrowsSpec)) freshGrowsUptoCard

/-- THE SECOND FORM's CARD OF 'waybilllaw16.QueryMore'. -/
def queryMoreUptoCard : Claim7 := { stood := { row := queryMoreUptoRow, standIns := [], harness := (true, "6aeef30d5685bcd1ebe58a5c842de1e5e35cf20f64e06730db3e583dd6978877"), looks := true }, kinds := [], alts := [], laidByText := true, laidKinds := [.data, .handle, .pinned], laidTests := true, laidLooks := .later }
def QueryMoreUptoCardSaid : Prop := Claim7.holds Tryd.pinned (.plain (OpenSpec.upto queryMoreSpec)) queryMoreUptoCard

/-- THE SECOND FORM's CARD OF 'waybilllaw16.QueryFinds'. -/
def queryFindsUptoCard : Claim7 := { stood := { row := queryFindsUptoRow, standIns := [], harness := (true, "6aeef30d5685bcd1ebe58a5c842de1e5e35cf20f64e06730db3e583dd6978877"), looks := true }, kinds := [], alts := [], laidByText := true, laidKinds := [.data, .handle, .pinned], laidTests := true, laidLooks := .later }
def QueryFindsUptoCardSaid : Prop := Claim7.holds Tryd.pinned (.plain (OpenSpec.upto queryFindsSpec)) queryFindsUptoCard
end Rows
end Go.Proofs.YteabhblbefglpaaDoor
