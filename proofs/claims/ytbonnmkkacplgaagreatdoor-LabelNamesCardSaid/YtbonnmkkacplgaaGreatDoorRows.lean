/-
  NARROWER THAN 'FOR EVERY INPUT', by the rows' own cells (each row's printed sentence says how): LabelASCII: laid · LabelNames: laid · LabelChars: laid · LabelRight: laid · LabelParts: laid · LabelJoined: laid.
  DERIVED. THE GIVEN ROWS OF THIS SEAT. 6 by the template 'for every input the law returns true; each argument reads behind the call as it read before'; 0 by the template 'total and deterministic' (their statements: YtbonnmkkacplgaaGreatDoorTotals.lean).
  GIVEN WITH THE SEED: the statements are not yours to turn. If you find one false, say at which input.
  Laid BY PROGRAM, IN A SANDBOX (cutbox-rows.mjs): the forced cells as the released guide's own fill.sh prints them over the translation 855dfbc0682d7c77… (all of the seat's roots in one cut). By AI agents, Wed Nov 11 2026. No macro, syntax, notation, axiom, sorry.
-/
import Derived.Test.YtbonnmkkacplgaaGreatDoorChecked
import GoSem.PinnedTables
import GoSem.Claim
import GoSem.ClaimJoined
import GoSem.ClaimMapViews
import Derived.JoinedTies
import Derived.KernelRfl
namespace Go.Proofs.YtbonnmkkacplgaaGreatDoor
/- THE CELL 'sum', in the pinned program and in every row, IS THE sha256 OF THE DUMP (.gsa) THAT YtbonnmkkacplgaaGreatDoorProg.lean LOADS. Nothing in Lean hashes anything: it is a label: what it is worth is what the hold of that sum in a sandbox is worth. -/
noncomputable def Tryz.pinned : Pinned := { name := "ytbonnmkkacplgaagreatdoor", sum := "855dfbc0682d7c77fb3b62d53582b04935ea106e86c68c0a2f8dc438beac8238", checked := Tryz.checked }
namespace Rows
def none {H : Type} : Left H := { results := [], args := [] }

/- WHAT THE LISTED PACKAGE-LEVEL VARIABLES READ AS WHEN THE CALL BEGINS. Each datum BY PROGRAM (the guide's laid-datum.mjs) off the statement by which the dump's own 'gosem.cut.vars' lays the variable. In a bare row this is a premise. The card (YtbonnmkkacplgaaGreatDoorCards.lean) ties it to the program's text. -/
def laid_unicode_utf8_acceptRanges {H : Type} : DataW H := .agg [.agg [.lit (.int .u8 128), .lit (.int .u8 191)], .agg [.lit (.int .u8 160), .lit (.int .u8 191)], .agg [.lit (.int .u8 128), .lit (.int .u8 159)], .agg [.lit (.int .u8 144), .lit (.int .u8 191)], .agg [.lit (.int .u8 128), .lit (.int .u8 143)], .agg [.lit (.int .u8 0), .lit (.int .u8 0)], .agg [.lit (.int .u8 0), .lit (.int .u8 0)], .agg [.lit (.int .u8 0), .lit (.int .u8 0)], .agg [.lit (.int .u8 0), .lit (.int .u8 0)], .agg [.lit (.int .u8 0), .lit (.int .u8 0)], .agg [.lit (.int .u8 0), .lit (.int .u8 0)], .agg [.lit (.int .u8 0), .lit (.int .u8 0)], .agg [.lit (.int .u8 0), .lit (.int .u8 0)], .agg [.lit (.int .u8 0), .lit (.int .u8 0)], .agg [.lit (.int .u8 0), .lit (.int .u8 0)], .agg [.lit (.int .u8 0), .lit (.int .u8 0)]]
def laid_errors_errorType {H : Type} : DataW H := .iface "internal/reflectlite.rtype" (.agg [.ptr (.lit (.string [101, 114, 114, 111, 114]))])
def laid_waybill_label_allowed {H : Type} : DataW H := .agg [.agg [.lit (.int .i64 223), .lit (.int .i64 246)], .agg [.lit (.int .i64 248), .lit (.int .i64 8191)], .agg [.lit (.int .i64 11264), .lit (.int .i64 12287)], .agg [.lit (.int .i64 12293), .lit (.int .i64 55295)], .agg [.lit (.int .i64 63744), .lit (.int .i64 64975)], .agg [.lit (.int .i64 65008), .lit (.int .i64 65023)], .agg [.lit (.int .i64 65536), .lit (.int .i64 262143)]]
/-- One of Go's own tables, pinned by name: the form's constant. -/
def laid_unicode_utf8_first : DataW Unit := Go.Pinned.utf8First

/-- 'waybilllaw10.LabelASCII': WHATEVER THE INPUT: true; the input reads as it did. -/
def labelASCIISpec : ChangeSpec := { name := "labelASCII", fn := fun _ => fun
  | [d] => { results := [.lit (.bool true)], args := [d] }
  | _ => none }
def labelASCIIRow : OpenClaim := { program := "ytbonnmkkacplgaagreatdoor", sum := "855dfbc0682d7c77fb3b62d53582b04935ea106e86c68c0a2f8dc438beac8238", func := "waybill/waybilllaw10.LabelASCII", spec := "labelASCII", inPlace := ["internal/bytealg.IndexByteString", "slices.overlaps[int]", "internal/abi.NoEscape", "internal/reflectlite.ValueOf", "(internal/reflectlite.Value).Type", "(internal/reflectlite.Value).IsNil", "internal/reflectlite.TypeOf", "(internal/reflectlite.Value).Elem", "(internal/reflectlite.Value).Set", "internal/bytealg.MakeNoZero"], unfollowed := true, recurses := true, named := ["unicode/utf8.first", "unicode/utf8.acceptRanges", "waybill/label.allowed", "errors.errorType"], apart := false, laid := [("unicode/utf8.acceptRanges", laid_unicode_utf8_acceptRanges), ("errors.errorType", laid_errors_errorType), ("waybill/label.allowed", laid_waybill_label_allowed), ("unicode/utf8.first", laid_unicode_utf8_first)] }
def LabelASCIISaid : Prop := labelASCIIRow.holds Tryz.pinned (OpenSpec.ofChange labelASCIISpec)

/-- ITS FALSE NEIGHBOUR: 'it returns false'. Refute it at one input. -/
def labelASCIIWrong : ChangeSpec := { name := "labelASCII", fn := fun _ => fun
  | [d] => { results := [.lit (.bool false)], args := [d] }
  | _ => none }
def LabelASCIIWrongFalsely : Prop := labelASCIIRow.holds Tryz.pinned (OpenSpec.ofChange labelASCIIWrong)

/-- 'waybilllaw10.LabelNames': WHATEVER THE INPUT: true; the input reads as it did. -/
def labelNamesSpec : ChangeSpec := { name := "labelNames", fn := fun _ => fun
  | [d] => { results := [.lit (.bool true)], args := [d] }
  | _ => none }
def labelNamesRow : OpenClaim := { program := "ytbonnmkkacplgaagreatdoor", sum := "855dfbc0682d7c77fb3b62d53582b04935ea106e86c68c0a2f8dc438beac8238", func := "waybill/waybilllaw10.LabelNames", spec := "labelNames", inPlace := ["internal/bytealg.IndexByteString", "slices.overlaps[int]", "internal/abi.NoEscape", "internal/reflectlite.ValueOf", "(internal/reflectlite.Value).Type", "(internal/reflectlite.Value).IsNil", "internal/reflectlite.TypeOf", "(internal/reflectlite.Value).Elem", "(internal/reflectlite.Value).Set", "internal/bytealg.MakeNoZero"], unfollowed := true, recurses := true, named := ["unicode/utf8.first", "unicode/utf8.acceptRanges", "waybill/label.allowed", "errors.errorType"], apart := false, laid := [("unicode/utf8.acceptRanges", laid_unicode_utf8_acceptRanges), ("errors.errorType", laid_errors_errorType), ("waybill/label.allowed", laid_waybill_label_allowed), ("unicode/utf8.first", laid_unicode_utf8_first)] }
def LabelNamesSaid : Prop := labelNamesRow.holds Tryz.pinned (OpenSpec.ofChange labelNamesSpec)

/-- ITS FALSE NEIGHBOUR: 'it returns false'. Refute it at one input. -/
def labelNamesWrong : ChangeSpec := { name := "labelNames", fn := fun _ => fun
  | [d] => { results := [.lit (.bool false)], args := [d] }
  | _ => none }
def LabelNamesWrongFalsely : Prop := labelNamesRow.holds Tryz.pinned (OpenSpec.ofChange labelNamesWrong)

/-- 'waybilllaw10.LabelChars': WHATEVER THE INPUT: true; the input reads as it did. -/
def labelCharsSpec : ChangeSpec := { name := "labelChars", fn := fun _ => fun
  | [d] => { results := [.lit (.bool true)], args := [d] }
  | _ => none }
def labelCharsRow : OpenClaim := { program := "ytbonnmkkacplgaagreatdoor", sum := "855dfbc0682d7c77fb3b62d53582b04935ea106e86c68c0a2f8dc438beac8238", func := "waybill/waybilllaw10.LabelChars", spec := "labelChars", inPlace := ["internal/bytealg.IndexByteString", "slices.overlaps[int]", "internal/abi.NoEscape", "internal/reflectlite.ValueOf", "(internal/reflectlite.Value).Type", "(internal/reflectlite.Value).IsNil", "internal/reflectlite.TypeOf", "(internal/reflectlite.Value).Elem", "(internal/reflectlite.Value).Set", "internal/bytealg.MakeNoZero"], unfollowed := true, recurses := true, named := ["unicode/utf8.first", "unicode/utf8.acceptRanges", "waybill/label.allowed", "errors.errorType"], apart := false, laid := [("unicode/utf8.acceptRanges", laid_unicode_utf8_acceptRanges), ("errors.errorType", laid_errors_errorType), ("waybill/label.allowed", laid_waybill_label_allowed), ("unicode/utf8.first", laid_unicode_utf8_first)] }
def LabelCharsSaid : Prop := labelCharsRow.holds Tryz.pinned (OpenSpec.ofChange labelCharsSpec)

/-- ITS FALSE NEIGHBOUR: 'it returns false'. Refute it at one input. -/
def labelCharsWrong : ChangeSpec := { name := "labelChars", fn := fun _ => fun
  | [d] => { results := [.lit (.bool false)], args := [d] }
  | _ => none }
def LabelCharsWrongFalsely : Prop := labelCharsRow.holds Tryz.pinned (OpenSpec.ofChange labelCharsWrong)

/-- 'waybilllaw10.LabelRight': WHATEVER THE INPUT: true; the input reads as it did. -/
def labelRightSpec : ChangeSpec := { name := "labelRight", fn := fun _ => fun
  | [d] => { results := [.lit (.bool true)], args := [d] }
  | _ => none }
def labelRightRow : OpenClaim := { program := "ytbonnmkkacplgaagreatdoor", sum := "855dfbc0682d7c77fb3b62d53582b04935ea106e86c68c0a2f8dc438beac8238", func := "waybill/waybilllaw10.LabelRight", spec := "labelRight", inPlace := ["internal/bytealg.IndexByteString", "slices.overlaps[int]", "internal/abi.NoEscape", "internal/reflectlite.ValueOf", "(internal/reflectlite.Value).Type", "(internal/reflectlite.Value).IsNil", "internal/reflectlite.TypeOf", "(internal/reflectlite.Value).Elem", "(internal/reflectlite.Value).Set", "internal/bytealg.MakeNoZero"], unfollowed := true, recurses := true, named := ["unicode/utf8.first", "unicode/utf8.acceptRanges", "waybill/label.allowed", "errors.errorType"], apart := false, laid := [("unicode/utf8.acceptRanges", laid_unicode_utf8_acceptRanges), ("errors.errorType", laid_errors_errorType), ("waybill/label.allowed", laid_waybill_label_allowed), ("unicode/utf8.first", laid_unicode_utf8_first)] }
def LabelRightSaid : Prop := labelRightRow.holds Tryz.pinned (OpenSpec.ofChange labelRightSpec)

/-- ITS FALSE NEIGHBOUR: 'it returns false'. Refute it at one input. -/
def labelRightWrong : ChangeSpec := { name := "labelRight", fn := fun _ => fun
  | [d] => { results := [.lit (.bool false)], args := [d] }
  | _ => none }
def LabelRightWrongFalsely : Prop := labelRightRow.holds Tryz.pinned (OpenSpec.ofChange labelRightWrong)

/-- 'waybilllaw10.LabelParts': WHATEVER THE INPUT: true; the input reads as it did. -/
def labelPartsSpec : ChangeSpec := { name := "labelParts", fn := fun _ => fun
  | [d1, d2] => { results := [.lit (.bool true)], args := [d1, d2] }
  | _ => none }
def labelPartsRow : OpenClaim := { program := "ytbonnmkkacplgaagreatdoor", sum := "855dfbc0682d7c77fb3b62d53582b04935ea106e86c68c0a2f8dc438beac8238", func := "waybill/waybilllaw10.LabelParts", spec := "labelParts", inPlace := ["internal/bytealg.IndexByteString", "slices.overlaps[int]", "internal/abi.NoEscape", "internal/reflectlite.ValueOf", "(internal/reflectlite.Value).Type", "(internal/reflectlite.Value).IsNil", "internal/reflectlite.TypeOf", "(internal/reflectlite.Value).Elem", "(internal/reflectlite.Value).Set", "internal/bytealg.MakeNoZero", "internal/bytealg.CountString", "internal/bytealg.IndexString"], unfollowed := true, recurses := true, named := ["unicode/utf8.first", "unicode/utf8.acceptRanges", "waybill/label.allowed", "errors.errorType", "internal/bytealg.MaxLen"], apart := false, laid := [("unicode/utf8.acceptRanges", laid_unicode_utf8_acceptRanges), ("errors.errorType", laid_errors_errorType), ("waybill/label.allowed", laid_waybill_label_allowed), ("unicode/utf8.first", laid_unicode_utf8_first)] }
def LabelPartsSaid : Prop := labelPartsRow.holds Tryz.pinned (OpenSpec.ofChange labelPartsSpec)

/-- ITS FALSE NEIGHBOUR: 'it returns false'. Refute it at one input. -/
def labelPartsWrong : ChangeSpec := { name := "labelParts", fn := fun _ => fun
  | [d1, d2] => { results := [.lit (.bool false)], args := [d1, d2] }
  | _ => none }
def LabelPartsWrongFalsely : Prop := labelPartsRow.holds Tryz.pinned (OpenSpec.ofChange labelPartsWrong)

/-- 'waybilllaw10.LabelJoined': WHATEVER THE INPUT: true; the input reads as it did. -/
def labelJoinedSpec : ChangeSpec := { name := "labelJoined", fn := fun _ => fun
  | [d1, d2] => { results := [.lit (.bool true)], args := [d1, d2] }
  | _ => none }
def labelJoinedRow : OpenClaim := { program := "ytbonnmkkacplgaagreatdoor", sum := "855dfbc0682d7c77fb3b62d53582b04935ea106e86c68c0a2f8dc438beac8238", func := "waybill/waybilllaw10.LabelJoined", spec := "labelJoined", inPlace := ["internal/bytealg.IndexByteString", "slices.overlaps[int]", "internal/abi.NoEscape", "internal/reflectlite.ValueOf", "(internal/reflectlite.Value).Type", "(internal/reflectlite.Value).IsNil", "internal/reflectlite.TypeOf", "(internal/reflectlite.Value).Elem", "(internal/reflectlite.Value).Set", "internal/bytealg.MakeNoZero", "internal/bytealg.CountString", "internal/bytealg.IndexString"], unfollowed := true, recurses := true, named := ["unicode/utf8.first", "unicode/utf8.acceptRanges", "waybill/label.allowed", "errors.errorType", "internal/bytealg.MaxLen"], apart := false, laid := [("unicode/utf8.acceptRanges", laid_unicode_utf8_acceptRanges), ("errors.errorType", laid_errors_errorType), ("waybill/label.allowed", laid_waybill_label_allowed), ("unicode/utf8.first", laid_unicode_utf8_first)] }
def LabelJoinedSaid : Prop := labelJoinedRow.holds Tryz.pinned (OpenSpec.ofChange labelJoinedSpec)

/-- ITS FALSE NEIGHBOUR: 'it returns false'. Refute it at one input. -/
def labelJoinedWrong : ChangeSpec := { name := "labelJoined", fn := fun _ => fun
  | [d1, d2] => { results := [.lit (.bool false)], args := [d1, d2] }
  | _ => none }
def LabelJoinedWrongFalsely : Prop := labelJoinedRow.holds Tryz.pinned (OpenSpec.ofChange labelJoinedWrong)

/- THE SECOND FORM. 'bulk': how many values and letters a reading holds, each counted each time it is reached (what is shared counts as often as it is met; a slice's spare places count too). A statement '..UptoSaid' is the law's where the arguments, and the package variables that the reading takes, are together of bulk at most 1048576: NARROWER than '..Said'. Prove '..Said' where nothing that the law and all that it calls make is longer than what came in: it says more and counts as full. Else prove '..UptoSaid'. A law counts once. -/
mutual
def uptoBulk {H : Type} : DataW H → Nat
  | .lit (.string bytes) => bytes.length + 1
  | .lit _ => 1
  | .nil => 1
  | .ptr d => uptoBulk d + 1
  | .slice elems spare => uptoBulkAll elems + uptoBulkAll spare + 1
  | .agg parts => uptoBulkAll parts + 1
  | .iface _ d => uptoBulk d + 1
  | .map entries => uptoBulkEntries entries + 1
  | .held _ => 1
def uptoBulkAll {H : Type} : List (DataW H) → Nat
  | [] => 0
  | d :: r => uptoBulk d + uptoBulkAll r
def uptoBulkEntries {H : Type} : List (Lit × DataW H) → Nat
  | [] => 0
  | x :: r => uptoBulkEntry x + uptoBulkEntries r
def uptoBulkEntry {H : Type} : Lit × DataW H → Nat
  | (.string bytes, d) => bytes.length + uptoBulk d + 1
  | (_, d) => uptoBulk d + 1
 end
def uptoSmall : (H : Type) → List (DataW H) → Bool := fun _ ds => decide (uptoBulkAll ds ≤ 1048576)
def OpenSpec.upto (s : _root_.Go.ChangeSpec) : _root_.Go.OpenSpec := { _root_.Go.OpenSpec.ofChange s with cond := some uptoSmall }

/-- 'waybilllaw10.LabelASCII', WHERE WHAT IT READS IS OF BULK AT MOST 1048576: true; the input reads as it did. -/
def labelASCIIUptoRow : OpenClaim := { program := "ytbonnmkkacplgaagreatdoor", sum := "855dfbc0682d7c77fb3b62d53582b04935ea106e86c68c0a2f8dc438beac8238", func := "waybill/waybilllaw10.LabelASCII", spec := "labelASCII", inPlace := ["internal/bytealg.IndexByteString", "slices.overlaps[int]", "internal/abi.NoEscape", "internal/reflectlite.ValueOf", "(internal/reflectlite.Value).Type", "(internal/reflectlite.Value).IsNil", "internal/reflectlite.TypeOf", "(internal/reflectlite.Value).Elem", "(internal/reflectlite.Value).Set", "internal/bytealg.MakeNoZero"], unfollowed := true, recurses := true, named := ["unicode/utf8.first", "unicode/utf8.acceptRanges", "waybill/label.allowed", "errors.errorType"], apart := false, laid := [("unicode/utf8.acceptRanges", laid_unicode_utf8_acceptRanges), ("errors.errorType", laid_errors_errorType), ("waybill/label.allowed", laid_waybill_label_allowed), ("unicode/utf8.first", laid_unicode_utf8_first)], narrowed := true }
def LabelASCIIUptoSaid : Prop := labelASCIIUptoRow.holds Tryz.pinned (OpenSpec.upto labelASCIISpec)

/-- 'waybilllaw10.LabelNames', WHERE WHAT IT READS IS OF BULK AT MOST 1048576: true; the input reads as it did. -/
def labelNamesUptoRow : OpenClaim := { program := "ytbonnmkkacplgaagreatdoor", sum := "855dfbc0682d7c77fb3b62d53582b04935ea106e86c68c0a2f8dc438beac8238", func := "waybill/waybilllaw10.LabelNames", spec := "labelNames", inPlace := ["internal/bytealg.IndexByteString", "slices.overlaps[int]", "internal/abi.NoEscape", "internal/reflectlite.ValueOf", "(internal/reflectlite.Value).Type", "(internal/reflectlite.Value).IsNil", "internal/reflectlite.TypeOf", "(internal/reflectlite.Value).Elem", "(internal/reflectlite.Value).Set", "internal/bytealg.MakeNoZero"], unfollowed := true, recurses := true, named := ["unicode/utf8.first", "unicode/utf8.acceptRanges", "waybill/label.allowed", "errors.errorType"], apart := false, laid := [("unicode/utf8.acceptRanges", laid_unicode_utf8_acceptRanges), ("errors.errorType", laid_errors_errorType), ("waybill/label.allowed", laid_waybill_label_allowed), ("unicode/utf8.first", laid_unicode_utf8_first)], narrowed := true }
def LabelNamesUptoSaid : Prop := labelNamesUptoRow.holds Tryz.pinned (OpenSpec.upto labelNamesSpec)

/-- 'waybilllaw10.LabelChars', WHERE WHAT IT READS IS OF BULK AT MOST 1048576: true; the input reads as it did. -/
def labelCharsUptoRow : OpenClaim := { program := "ytbonnmkkacplgaagreatdoor", sum := "855dfbc0682d7c77fb3b62d53582b04935ea106e86c68c0a2f8dc438beac8238", func := "waybill/waybilllaw10.LabelChars", spec := "labelChars", inPlace := ["internal/bytealg.IndexByteString", "slices.overlaps[int]", "internal/abi.NoEscape", "internal/reflectlite.ValueOf", "(internal/reflectlite.Value).Type", "(internal/reflectlite.Value).IsNil", "internal/reflectlite.TypeOf", "(internal/reflectlite.Value).Elem", "(internal/reflectlite.Value).Set", "internal/bytealg.MakeNoZero"], unfollowed := true, recurses := true, named := ["unicode/utf8.first", "unicode/utf8.acceptRanges", "waybill/label.allowed", "errors.errorType"], apart := false, laid := [("unicode/utf8.acceptRanges", laid_unicode_utf8_acceptRanges), ("errors.errorType", laid_errors_errorType), ("waybill/label.allowed", laid_waybill_label_allowed), ("unicode/utf8.first", laid_unicode_utf8_first)], narrowed := true }
def LabelCharsUptoSaid : Prop := labelCharsUptoRow.holds Tryz.pinned (OpenSpec.upto labelCharsSpec)

/-- 'waybilllaw10.LabelRight', WHERE WHAT IT READS IS OF BULK AT MOST 1048576: true; the input reads as it did. -/
def labelRightUptoRow : OpenClaim := { program := "ytbonnmkkacplgaagreatdoor", sum := "855dfbc0682d7c77fb3b62d53582b04935ea106e86c68c0a2f8dc438beac8238", func := "waybill/waybilllaw10.LabelRight", spec := "labelRight", inPlace := ["internal/bytealg.IndexByteString", "slices.overlaps[int]", "internal/abi.NoEscape", "internal/reflectlite.ValueOf", "(internal/reflectlite.Value).Type", "(internal/reflectlite.Value).IsNil", "internal/reflectlite.TypeOf", "(internal/reflectlite.Value).Elem", "(internal/reflectlite.Value).Set", "internal/bytealg.MakeNoZero"], unfollowed := true, recurses := true, named := ["unicode/utf8.first", "unicode/utf8.acceptRanges", "waybill/label.allowed", "errors.errorType"], apart := false, laid := [("unicode/utf8.acceptRanges", laid_unicode_utf8_acceptRanges), ("errors.errorType", laid_errors_errorType), ("waybill/label.allowed", laid_waybill_label_allowed), ("unicode/utf8.first", laid_unicode_utf8_first)], narrowed := true }
def LabelRightUptoSaid : Prop := labelRightUptoRow.holds Tryz.pinned (OpenSpec.upto labelRightSpec)

/-- 'waybilllaw10.LabelParts', WHERE WHAT IT READS IS OF BULK AT MOST 1048576: true; the input reads as it did. -/
def labelPartsUptoRow : OpenClaim := { program := "ytbonnmkkacplgaagreatdoor", sum := "855dfbc0682d7c77fb3b62d53582b04935ea106e86c68c0a2f8dc438beac8238", func := "waybill/waybilllaw10.LabelParts", spec := "labelParts", inPlace := ["internal/bytealg.IndexByteString", "slices.overlaps[int]", "internal/abi.NoEscape", "internal/reflectlite.ValueOf", "(internal/reflectlite.Value).Type", "(internal/reflectlite.Value).IsNil", "internal/reflectlite.TypeOf", "(internal/reflectlite.Value).Elem", "(internal/reflectlite.Value).Set", "internal/bytealg.MakeNoZero", "internal/bytealg.CountString", "internal/bytealg.IndexString"], unfollowed := true, recurses := true, named := ["unicode/utf8.first", "unicode/utf8.acceptRanges", "waybill/label.allowed", "errors.errorType", "internal/bytealg.MaxLen"], apart := false, laid := [("unicode/utf8.acceptRanges", laid_unicode_utf8_acceptRanges), ("errors.errorType", laid_errors_errorType), ("waybill/label.allowed", laid_waybill_label_allowed), ("unicode/utf8.first", laid_unicode_utf8_first)], narrowed := true }
def LabelPartsUptoSaid : Prop := labelPartsUptoRow.holds Tryz.pinned (OpenSpec.upto labelPartsSpec)

/-- 'waybilllaw10.LabelJoined', WHERE WHAT IT READS IS OF BULK AT MOST 1048576: true; the input reads as it did. -/
def labelJoinedUptoRow : OpenClaim := { program := "ytbonnmkkacplgaagreatdoor", sum := "855dfbc0682d7c77fb3b62d53582b04935ea106e86c68c0a2f8dc438beac8238", func := "waybill/waybilllaw10.LabelJoined", spec := "labelJoined", inPlace := ["internal/bytealg.IndexByteString", "slices.overlaps[int]", "internal/abi.NoEscape", "internal/reflectlite.ValueOf", "(internal/reflectlite.Value).Type", "(internal/reflectlite.Value).IsNil", "internal/reflectlite.TypeOf", "(internal/reflectlite.Value).Elem", "(internal/reflectlite.Value).Set", "internal/bytealg.MakeNoZero", "internal/bytealg.CountString", "internal/bytealg.IndexString"], unfollowed := true, recurses := true, named := ["unicode/utf8.first", "unicode/utf8.acceptRanges", "waybill/label.allowed", "errors.errorType", "internal/bytealg.MaxLen"], apart := false, laid := [("unicode/utf8.acceptRanges", laid_unicode_utf8_acceptRanges), ("errors.errorType", laid_errors_errorType), ("waybill/label.allowed", laid_waybill_label_allowed), ("unicode/utf8.first", laid_unicode_utf8_first)], narrowed := true }
def LabelJoinedUptoSaid : Prop := labelJoinedUptoRow.holds Tryz.pinned (OpenSpec.upto labelJoinedSpec)

end Rows
end Go.Proofs.YtbonnmkkacplgaaGreatDoor
