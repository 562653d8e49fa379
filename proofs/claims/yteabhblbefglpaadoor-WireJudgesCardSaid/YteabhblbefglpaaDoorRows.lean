/-
  NARROWER THAN 'FOR EVERY INPUT', by the rows' own cells (each row's printed sentence says how): WireJudges: laid · WireStatus: laid · WireOnce: laid · QueryReads: laid · QueryJoined: laid · FreshLess: laid · FreshWaits: laid · FreshGrows: laid · QueryMore: laid · QueryFinds: laid.
  DERIVED. THE GIVEN ROWS OF THIS SEAT. 10 by the template 'for every input the law returns true; each argument reads behind the call as it read before'; 0 by the template 'total and deterministic' (their statements: YteabhblbefglpaaDoorTotals.lean).
  GIVEN WITH THE SEED: the statements are not yours to turn. If you find one false, say at which input.
  Laid BY PROGRAM, IN A SANDBOX (cutbox-rows.mjs): the forced cells as the released guide's own fill.sh prints them over the translation dc001ab5d68d7cbe… (all of the seat's roots in one cut). By AI agents, Wed Nov 11 2026. No macro, syntax, notation, axiom, sorry.
-/
import Derived.Test.YteabhblbefglpaaDoorChecked
import GoSem.PinnedTables
import GoSem.Claim
import GoSem.ClaimJoined
import GoSem.ClaimMapViews
import Derived.JoinedTies
import Derived.KernelRfl
namespace Go.Proofs.YteabhblbefglpaaDoor
/- THE CELL 'sum', in the pinned program and in every row, IS THE sha256 OF THE DUMP (.gsa) THAT YteabhblbefglpaaDoorProg.lean LOADS. Nothing in Lean hashes anything: it is a label: what it is worth is what the hold of that sum in a sandbox is worth. -/
noncomputable def Tryd.pinned : Pinned := { name := "yteabhblbefglpaadoor", sum := "dc001ab5d68d7cbe8affdce21c3537b63342daa37b7fe8877f9d8b52fc395889", checked := Tryd.checked }
namespace Rows
def none {H : Type} : Left H := { results := [], args := [] }

/- WHAT THE LISTED PACKAGE-LEVEL VARIABLES READ AS WHEN THE CALL BEGINS. Each datum BY PROGRAM (the guide's laid-datum.mjs) off the statement by which the dump's own 'gosem.cut.vars' lays the variable. In a bare row this is a premise. The card (YteabhblbefglpaaDoorCards.lean) ties it to the program's text. -/
def laid_unicode_utf8_acceptRanges {H : Type} : DataW H := .agg [.agg [.lit (.int .u8 128), .lit (.int .u8 191)], .agg [.lit (.int .u8 160), .lit (.int .u8 191)], .agg [.lit (.int .u8 128), .lit (.int .u8 159)], .agg [.lit (.int .u8 144), .lit (.int .u8 191)], .agg [.lit (.int .u8 128), .lit (.int .u8 143)], .agg [.lit (.int .u8 0), .lit (.int .u8 0)], .agg [.lit (.int .u8 0), .lit (.int .u8 0)], .agg [.lit (.int .u8 0), .lit (.int .u8 0)], .agg [.lit (.int .u8 0), .lit (.int .u8 0)], .agg [.lit (.int .u8 0), .lit (.int .u8 0)], .agg [.lit (.int .u8 0), .lit (.int .u8 0)], .agg [.lit (.int .u8 0), .lit (.int .u8 0)], .agg [.lit (.int .u8 0), .lit (.int .u8 0)], .agg [.lit (.int .u8 0), .lit (.int .u8 0)], .agg [.lit (.int .u8 0), .lit (.int .u8 0)], .agg [.lit (.int .u8 0), .lit (.int .u8 0)]]
def laid_errors_errorType {H : Type} : DataW H := .iface "internal/reflectlite.rtype" (.agg [.ptr (.lit (.string [101, 114, 114, 111, 114]))])
/-- One of Go's own tables, pinned by name: the form's constant. -/
def laid_unicode_utf8_first : DataW Unit := Go.Pinned.utf8First

/-- 'waybilllaw26.WireJudges': WHATEVER THE INPUT: true; the input reads as it did. -/
def wireJudgesSpec : ChangeSpec := { name := "wireJudges", fn := fun _ => fun
  | [d1, d2, d3] => { results := [.lit (.bool true)], args := [d1, d2, d3] }
  | _ => none }
def wireJudgesRow : OpenClaim := { program := "yteabhblbefglpaadoor", sum := "dc001ab5d68d7cbe8affdce21c3537b63342daa37b7fe8877f9d8b52fc395889", func := "waybill/waybilllaw26.WireJudges", spec := "wireJudges", inPlace := ["internal/bytealg.IndexByteString", "internal/bytealg.IndexString", "internal/abi.NoEscape", "internal/reflectlite.ValueOf", "(internal/reflectlite.Value).Type", "(internal/reflectlite.Value).IsNil", "internal/reflectlite.TypeOf", "(internal/reflectlite.Value).Elem", "(internal/reflectlite.Value).Set"], unfollowed := true, recurses := true, named := ["unicode/utf8.first", "unicode/utf8.acceptRanges", "errors.errorType", "internal/bytealg.MaxLen"], apart := false, laid := [("unicode/utf8.acceptRanges", laid_unicode_utf8_acceptRanges), ("errors.errorType", laid_errors_errorType), ("unicode/utf8.first", laid_unicode_utf8_first)] }
def WireJudgesSaid : Prop := wireJudgesRow.holds Tryd.pinned (OpenSpec.ofChange wireJudgesSpec)

/-- ITS FALSE NEIGHBOUR: 'it returns false'. Refute it at one input. -/
def wireJudgesWrong : ChangeSpec := { name := "wireJudges", fn := fun _ => fun
  | [d1, d2, d3] => { results := [.lit (.bool false)], args := [d1, d2, d3] }
  | _ => none }
def WireJudgesWrongFalsely : Prop := wireJudgesRow.holds Tryd.pinned (OpenSpec.ofChange wireJudgesWrong)

/-- 'waybilllaw26.WireStatus': WHATEVER THE INPUT: true; the input reads as it did. -/
def wireStatusSpec : ChangeSpec := { name := "wireStatus", fn := fun _ => fun
  | [d1, d2] => { results := [.lit (.bool true)], args := [d1, d2] }
  | _ => none }
def wireStatusRow : OpenClaim := { program := "yteabhblbefglpaadoor", sum := "dc001ab5d68d7cbe8affdce21c3537b63342daa37b7fe8877f9d8b52fc395889", func := "waybill/waybilllaw26.WireStatus", spec := "wireStatus", inPlace := ["internal/bytealg.IndexByteString", "internal/bytealg.IndexString", "internal/abi.NoEscape", "internal/reflectlite.ValueOf", "(internal/reflectlite.Value).Type", "(internal/reflectlite.Value).IsNil", "internal/reflectlite.TypeOf", "(internal/reflectlite.Value).Elem", "(internal/reflectlite.Value).Set"], unfollowed := true, recurses := true, named := ["unicode/utf8.first", "unicode/utf8.acceptRanges", "errors.errorType", "internal/bytealg.MaxLen"], apart := false, laid := [("unicode/utf8.acceptRanges", laid_unicode_utf8_acceptRanges), ("errors.errorType", laid_errors_errorType), ("unicode/utf8.first", laid_unicode_utf8_first)] }
def WireStatusSaid : Prop := wireStatusRow.holds Tryd.pinned (OpenSpec.ofChange wireStatusSpec)

/-- ITS FALSE NEIGHBOUR: 'it returns false'. Refute it at one input. -/
def wireStatusWrong : ChangeSpec := { name := "wireStatus", fn := fun _ => fun
  | [d1, d2] => { results := [.lit (.bool false)], args := [d1, d2] }
  | _ => none }
def WireStatusWrongFalsely : Prop := wireStatusRow.holds Tryd.pinned (OpenSpec.ofChange wireStatusWrong)

/-- 'waybilllaw26.WireOnce': WHATEVER THE INPUT: true; the input reads as it did. -/
def wireOnceSpec : ChangeSpec := { name := "wireOnce", fn := fun _ => fun
  | [d] => { results := [.lit (.bool true)], args := [d] }
  | _ => none }
def wireOnceRow : OpenClaim := { program := "yteabhblbefglpaadoor", sum := "dc001ab5d68d7cbe8affdce21c3537b63342daa37b7fe8877f9d8b52fc395889", func := "waybill/waybilllaw26.WireOnce", spec := "wireOnce", inPlace := ["internal/bytealg.IndexByteString", "internal/bytealg.IndexString", "internal/abi.NoEscape", "internal/reflectlite.ValueOf", "(internal/reflectlite.Value).Type", "(internal/reflectlite.Value).IsNil", "internal/reflectlite.TypeOf", "(internal/reflectlite.Value).Elem", "(internal/reflectlite.Value).Set"], unfollowed := true, recurses := true, named := ["unicode/utf8.first", "unicode/utf8.acceptRanges", "errors.errorType", "internal/bytealg.MaxLen"], apart := false, laid := [("unicode/utf8.acceptRanges", laid_unicode_utf8_acceptRanges), ("errors.errorType", laid_errors_errorType), ("unicode/utf8.first", laid_unicode_utf8_first)] }
def WireOnceSaid : Prop := wireOnceRow.holds Tryd.pinned (OpenSpec.ofChange wireOnceSpec)

/-- ITS FALSE NEIGHBOUR: 'it returns false'. Refute it at one input. -/
def wireOnceWrong : ChangeSpec := { name := "wireOnce", fn := fun _ => fun
  | [d] => { results := [.lit (.bool false)], args := [d] }
  | _ => none }
def WireOnceWrongFalsely : Prop := wireOnceRow.holds Tryd.pinned (OpenSpec.ofChange wireOnceWrong)

/-- 'waybilllaw16.QueryReads': WHATEVER THE INPUT: true; the input reads as it did. -/
def queryReadsSpec : ChangeSpec := { name := "queryReads", fn := fun _ => fun
  | [d] => { results := [.lit (.bool true)], args := [d] }
  | _ => none }
def queryReadsRow : OpenClaim := { program := "yteabhblbefglpaadoor", sum := "dc001ab5d68d7cbe8affdce21c3537b63342daa37b7fe8877f9d8b52fc395889", func := "waybill/waybilllaw16.QueryReads", spec := "queryReads", inPlace := ["internal/bytealg.CountString", "internal/bytealg.IndexByteString", "internal/bytealg.IndexString", "math/bits.Add64", "internal/reflectlite.ValueOf", "(internal/reflectlite.Value).Type", "(internal/reflectlite.Value).IsNil", "internal/reflectlite.TypeOf", "(internal/reflectlite.Value).Elem", "(internal/reflectlite.Value).Set"], unfollowed := true, recurses := true, named := ["unicode/utf8.first", "unicode/utf8.acceptRanges", "internal/bytealg.MaxLen", "errors.errorType"], apart := false, laid := [("unicode/utf8.acceptRanges", laid_unicode_utf8_acceptRanges), ("errors.errorType", laid_errors_errorType), ("unicode/utf8.first", laid_unicode_utf8_first)] }
def QueryReadsSaid : Prop := queryReadsRow.holds Tryd.pinned (OpenSpec.ofChange queryReadsSpec)

/-- ITS FALSE NEIGHBOUR: 'it returns false'. Refute it at one input. -/
def queryReadsWrong : ChangeSpec := { name := "queryReads", fn := fun _ => fun
  | [d] => { results := [.lit (.bool false)], args := [d] }
  | _ => none }
def QueryReadsWrongFalsely : Prop := queryReadsRow.holds Tryd.pinned (OpenSpec.ofChange queryReadsWrong)

/-- 'waybilllaw16.QueryJoined': WHATEVER THE INPUT: true; the input reads as it did. -/
def queryJoinedSpec : ChangeSpec := { name := "queryJoined", fn := fun _ => fun
  | [d1, d2] => { results := [.lit (.bool true)], args := [d1, d2] }
  | _ => none }
def queryJoinedRow : OpenClaim := { program := "yteabhblbefglpaadoor", sum := "dc001ab5d68d7cbe8affdce21c3537b63342daa37b7fe8877f9d8b52fc395889", func := "waybill/waybilllaw16.QueryJoined", spec := "queryJoined", inPlace := ["internal/bytealg.CountString", "internal/bytealg.IndexByteString", "internal/bytealg.IndexString", "math/bits.Add64", "internal/reflectlite.ValueOf", "(internal/reflectlite.Value).Type", "(internal/reflectlite.Value).IsNil", "internal/reflectlite.TypeOf", "(internal/reflectlite.Value).Elem", "(internal/reflectlite.Value).Set"], unfollowed := true, recurses := true, named := ["unicode/utf8.first", "unicode/utf8.acceptRanges", "internal/bytealg.MaxLen", "errors.errorType"], apart := false, laid := [("unicode/utf8.acceptRanges", laid_unicode_utf8_acceptRanges), ("errors.errorType", laid_errors_errorType), ("unicode/utf8.first", laid_unicode_utf8_first)] }
def QueryJoinedSaid : Prop := queryJoinedRow.holds Tryd.pinned (OpenSpec.ofChange queryJoinedSpec)

/-- ITS FALSE NEIGHBOUR: 'it returns false'. Refute it at one input. -/
def queryJoinedWrong : ChangeSpec := { name := "queryJoined", fn := fun _ => fun
  | [d1, d2] => { results := [.lit (.bool false)], args := [d1, d2] }
  | _ => none }
def QueryJoinedWrongFalsely : Prop := queryJoinedRow.holds Tryd.pinned (OpenSpec.ofChange queryJoinedWrong)

/-- 'waybilllaw18.FreshLess': WHATEVER THE INPUT: true; the input reads as it did. -/
def freshLessSpec : ChangeSpec := { name := "freshLess", fn := fun _ => fun
  | [d] => { results := [.lit (.bool true)], args := [d] }
  | _ => none }
def freshLessRow : OpenClaim := { program := "yteabhblbefglpaadoor", sum := "dc001ab5d68d7cbe8affdce21c3537b63342daa37b7fe8877f9d8b52fc395889", func := "waybill/waybilllaw18.FreshLess", spec := "freshLess", inPlace := ["internal/bytealg.CountString", "internal/bytealg.IndexByteString", "internal/bytealg.IndexString", "math/bits.Add64"], named := ["unicode/utf8.first", "unicode/utf8.acceptRanges", "internal/bytealg.MaxLen"], apart := false, laid := [("unicode/utf8.acceptRanges", laid_unicode_utf8_acceptRanges), ("unicode/utf8.first", laid_unicode_utf8_first)] }
def FreshLessSaid : Prop := freshLessRow.holds Tryd.pinned (OpenSpec.ofChange freshLessSpec)

/-- ITS FALSE NEIGHBOUR: 'it returns false'. Refute it at one input. -/
def freshLessWrong : ChangeSpec := { name := "freshLess", fn := fun _ => fun
  | [d] => { results := [.lit (.bool false)], args := [d] }
  | _ => none }
def FreshLessWrongFalsely : Prop := freshLessRow.holds Tryd.pinned (OpenSpec.ofChange freshLessWrong)

/-- 'waybilllaw18.FreshWaits': WHATEVER THE INPUT: true; the input reads as it did. -/
def freshWaitsSpec : ChangeSpec := { name := "freshWaits", fn := fun _ => fun
  | [d1, d2, d3] => { results := [.lit (.bool true)], args := [d1, d2, d3] }
  | _ => none }
def freshWaitsRow : OpenClaim := { program := "yteabhblbefglpaadoor", sum := "dc001ab5d68d7cbe8affdce21c3537b63342daa37b7fe8877f9d8b52fc395889", func := "waybill/waybilllaw18.FreshWaits", spec := "freshWaits", inPlace := ["internal/bytealg.CountString", "internal/bytealg.IndexByteString", "internal/bytealg.IndexString", "math/bits.Add64"], named := ["unicode/utf8.first", "unicode/utf8.acceptRanges", "internal/bytealg.MaxLen"], apart := false, laid := [("unicode/utf8.acceptRanges", laid_unicode_utf8_acceptRanges), ("unicode/utf8.first", laid_unicode_utf8_first)] }
def FreshWaitsSaid : Prop := freshWaitsRow.holds Tryd.pinned (OpenSpec.ofChange freshWaitsSpec)

/-- ITS FALSE NEIGHBOUR: 'it returns false'. Refute it at one input. -/
def freshWaitsWrong : ChangeSpec := { name := "freshWaits", fn := fun _ => fun
  | [d1, d2, d3] => { results := [.lit (.bool false)], args := [d1, d2, d3] }
  | _ => none }
def FreshWaitsWrongFalsely : Prop := freshWaitsRow.holds Tryd.pinned (OpenSpec.ofChange freshWaitsWrong)

/-- 'waybilllaw18.FreshGrows': WHATEVER THE INPUT: true; the input reads as it did. -/
def freshGrowsSpec : ChangeSpec := { name := "freshGrows", fn := fun _ => fun
  | [d] => { results := [.lit (.bool true)], args := [d] }
  | _ => none }
def freshGrowsRow : OpenClaim := { program := "yteabhblbefglpaadoor", sum := "dc001ab5d68d7cbe8affdce21c3537b63342daa37b7fe8877f9d8b52fc395889", func := "waybill/waybilllaw18.FreshGrows", spec := "freshGrows", inPlace := ["internal/bytealg.CountString", "internal/bytealg.IndexByteString", "internal/bytealg.IndexString", "math/bits.Add64"], named := ["unicode/utf8.first", "unicode/utf8.acceptRanges", "internal/bytealg.MaxLen"], apart := false, laid := [("unicode/utf8.acceptRanges", laid_unicode_utf8_acceptRanges), ("unicode/utf8.first", laid_unicode_utf8_first)] }
def FreshGrowsSaid : Prop := freshGrowsRow.holds Tryd.pinned (OpenSpec.ofChange freshGrowsSpec)

/-- ITS FALSE NEIGHBOUR: 'it returns false'. Refute it at one input. -/
def freshGrowsWrong : ChangeSpec := { name := "freshGrows", fn := fun _ => fun
  | [d] => { results := [.lit (.bool false)], args := [d] }
  | _ => none }
def FreshGrowsWrongFalsely : Prop := freshGrowsRow.holds Tryd.pinned (OpenSpec.ofChange freshGrowsWrong)

/-- 'waybilllaw16.QueryMore': WHATEVER THE INPUT: true; the input reads as it did. -/
def queryMoreSpec : ChangeSpec := { name := "queryMore", fn := fun _ => fun
  | [d1, d2, d3, d4] => { results := [.lit (.bool true)], args := [d1, d2, d3, d4] }
  | _ => none }
def queryMoreRow : OpenClaim := { program := "yteabhblbefglpaadoor", sum := "dc001ab5d68d7cbe8affdce21c3537b63342daa37b7fe8877f9d8b52fc395889", func := "waybill/waybilllaw16.QueryMore", spec := "queryMore", inPlace := ["internal/bytealg.CountString", "internal/bytealg.IndexByteString", "internal/bytealg.IndexString", "math/bits.Add64", "internal/reflectlite.ValueOf", "(internal/reflectlite.Value).Type", "(internal/reflectlite.Value).IsNil", "internal/reflectlite.TypeOf", "(internal/reflectlite.Value).Elem", "(internal/reflectlite.Value).Set"], unfollowed := true, recurses := true, named := ["unicode/utf8.first", "unicode/utf8.acceptRanges", "internal/bytealg.MaxLen", "errors.errorType"], apart := false, laid := [("unicode/utf8.acceptRanges", laid_unicode_utf8_acceptRanges), ("errors.errorType", laid_errors_errorType), ("unicode/utf8.first", laid_unicode_utf8_first)] }
def QueryMoreSaid : Prop := queryMoreRow.holds Tryd.pinned (OpenSpec.ofChange queryMoreSpec)

/-- ITS FALSE NEIGHBOUR: 'it returns false'. Refute it at one input. -/
def queryMoreWrong : ChangeSpec := { name := "queryMore", fn := fun _ => fun
  | [d1, d2, d3, d4] => { results := [.lit (.bool false)], args := [d1, d2, d3, d4] }
  | _ => none }
def QueryMoreWrongFalsely : Prop := queryMoreRow.holds Tryd.pinned (OpenSpec.ofChange queryMoreWrong)

/-- 'waybilllaw16.QueryFinds': WHATEVER THE INPUT: true; the input reads as it did. -/
def queryFindsSpec : ChangeSpec := { name := "queryFinds", fn := fun _ => fun
  | [d1, d2, d3, d4] => { results := [.lit (.bool true)], args := [d1, d2, d3, d4] }
  | _ => none }
def queryFindsRow : OpenClaim := { program := "yteabhblbefglpaadoor", sum := "dc001ab5d68d7cbe8affdce21c3537b63342daa37b7fe8877f9d8b52fc395889", func := "waybill/waybilllaw16.QueryFinds", spec := "queryFinds", inPlace := ["internal/bytealg.CountString", "internal/bytealg.IndexByteString", "internal/bytealg.IndexString", "math/bits.Add64", "internal/reflectlite.ValueOf", "(internal/reflectlite.Value).Type", "(internal/reflectlite.Value).IsNil", "internal/reflectlite.TypeOf", "(internal/reflectlite.Value).Elem", "(internal/reflectlite.Value).Set"], unfollowed := true, recurses := true, named := ["unicode/utf8.first", "unicode/utf8.acceptRanges", "internal/bytealg.MaxLen", "errors.errorType"], apart := false, laid := [("unicode/utf8.acceptRanges", laid_unicode_utf8_acceptRanges), ("errors.errorType", laid_errors_errorType), ("unicode/utf8.first", laid_unicode_utf8_first)] }
def QueryFindsSaid : Prop := queryFindsRow.holds Tryd.pinned (OpenSpec.ofChange queryFindsSpec)

/-- ITS FALSE NEIGHBOUR: 'it returns false'. Refute it at one input. -/
def queryFindsWrong : ChangeSpec := { name := "queryFinds", fn := fun _ => fun
  | [d1, d2, d3, d4] => { results := [.lit (.bool false)], args := [d1, d2, d3, d4] }
  | _ => none }
def QueryFindsWrongFalsely : Prop := queryFindsRow.holds Tryd.pinned (OpenSpec.ofChange queryFindsWrong)

/- THE SECOND FORM. 'bulk': how many values and letters a reading holds, each counted each time it is reached (what is shared counts as often as it is met; a slice's spare places count too). A statement '..UptoSaid' is the law's where the arguments, and the package variables that the reading takes, are together of bulk at most 1048576: NARROWER than '..Said'. Prove '..Said' where nothing that the law and all that it calls make is longer than what came in: it says more and counts as full. Else prove '..UptoSaid'. A law counts once. -/
mutual
def uptoBulk {H : Type} : DataW H → Nat
  | .lit (.string bytes) => bytes.length + 1
  | .lit _ => 1
  | .nil => 1
  | .ptr d => uptoBulk d + 1
  | .slice elems spare => uptoBulkAll elems + uptoBulkAll spare + 1
  | .agg parts => uptoBulkAll parts + 1
  | .iface _ d => uptoBulk d + 1
  | .map entries => uptoBulkEntries entries + 1
  | .held _ => 1
def uptoBulkAll {H : Type} : List (DataW H) → Nat
  | [] => 0
  | d :: r => uptoBulk d + uptoBulkAll r
def uptoBulkEntries {H : Type} : List (Lit × DataW H) → Nat
  | [] => 0
  | x :: r => uptoBulkEntry x + uptoBulkEntries r
def uptoBulkEntry {H : Type} : Lit × DataW H → Nat
  | (.string bytes, d) => bytes.length + uptoBulk d + 1
  | (_, d) => uptoBulk d + 1
 end
def uptoSmall : (H : Type) → List (DataW H) → Bool := fun _ ds => decide (uptoBulkAll ds ≤ 1048576)
def OpenSpec.upto (s : _root_.Go.ChangeSpec) : _root_.Go.OpenSpec := { _root_.Go.OpenSpec.ofChange s with cond := some uptoSmall }

/-- 'waybilllaw26.WireJudges', WHERE WHAT IT READS IS OF BULK AT MOST 1048576: true; the input reads as it did. -/
def wireJudgesUptoRow : OpenClaim := { program := "yteabhblbefglpaadoor", sum := "dc001ab5d68d7cbe8affdce21c3537b63342daa37b7fe8877f9d8b52fc395889", func := "waybill/waybilllaw26.WireJudges", spec := "wireJudges", inPlace := ["internal/bytealg.IndexByteString", "internal/bytealg.IndexString", "internal/abi.NoEscape", "internal/reflectlite.ValueOf", "(internal/reflectlite.Value).Type", "(internal/reflectlite.Value).IsNil", "internal/reflectlite.TypeOf", "(internal/reflectlite.Value).Elem", "(internal/reflectlite.Value).Set"], unfollowed := true, recurses := true, named := ["unicode/utf8.first", "unicode/utf8.acceptRanges", "errors.errorType", "internal/bytealg.MaxLen"], apart := false, laid := [("unicode/utf8.acceptRanges", laid_unicode_utf8_acceptRanges), ("errors.errorType", laid_errors_errorType), ("unicode/utf8.first", laid_unicode_utf8_first)], narrowed := true }
def WireJudgesUptoSaid : Prop := wireJudgesUptoRow.holds Tryd.pinned (OpenSpec.upto wireJudgesSpec)

/-- 'waybilllaw26.WireStatus', WHERE WHAT IT READS IS OF BULK AT MOST 1048576: true; the input reads as it did. -/
def wireStatusUptoRow : OpenClaim := { program := "yteabhblbefglpaadoor", sum := "dc001ab5d68d7cbe8affdce21c3537b63342daa37b7fe8877f9d8b52fc395889", func := "waybill/waybilllaw26.WireStatus", spec := "wireStatus", inPlace := ["internal/bytealg.IndexByteString", "internal/bytealg.IndexString", "internal/abi.NoEscape", "internal/reflectlite.ValueOf", "(internal/reflectlite.Value).Type", "(internal/reflectlite.Value).IsNil", "internal/reflectlite.TypeOf", "(internal/reflectlite.Value).Elem", "(internal/reflectlite.Value).Set"], unfollowed := true, recurses := true, named := ["unicode/utf8.first", "unicode/utf8.acceptRanges", "errors.errorType", "internal/bytealg.MaxLen"], apart := false, laid := [("unicode/utf8.acceptRanges", laid_unicode_utf8_acceptRanges), ("errors.errorType", laid_errors_errorType), ("unicode/utf8.first", laid_unicode_utf8_first)], narrowed := true }
def WireStatusUptoSaid : Prop := wireStatusUptoRow.holds Tryd.pinned (OpenSpec.upto wireStatusSpec)

/-- 'waybilllaw26.WireOnce', WHERE WHAT IT READS IS OF BULK AT MOST 1048576: true; the input reads as it did. -/
def wireOnceUptoRow : OpenClaim := { program := "yteabhblbefglpaadoor", sum := "dc001ab5d68d7cbe8affdce21c3537b63342daa37b7fe8877f9d8b52fc395889", func := "waybill/waybilllaw26.WireOnce", spec := "wireOnce", inPlace := ["internal/bytealg.IndexByteString", "internal/bytealg.IndexString", "internal/abi.NoEscape", "internal/reflectlite.ValueOf", "(internal/reflectlite.Value).Type", "(internal/reflectlite.Value).IsNil", "internal/reflectlite.TypeOf", "(internal/reflectlite.Value).Elem", "(internal/reflectlite.Value).Set"], unfollowed := true, recurses := true, named := ["unicode/utf8.first", "unicode/utf8.acceptRanges", "errors.errorType", "internal/bytealg.MaxLen"], apart := false, laid := [("unicode/utf8.acceptRanges", laid_unicode_utf8_acceptRanges), ("errors.errorType", laid_errors_errorType), ("unicode/utf8.first", laid_unicode_utf8_first)], narrowed := true }
def WireOnceUptoSaid : Prop := wireOnceUptoRow.holds Tryd.pinned (OpenSpec.upto wireOnceSpec)

/-- 'waybilllaw16.QueryReads', WHERE WHAT IT READS IS OF BULK AT MOST 1048576: true; the input reads as it did. -/
def queryReadsUptoRow : OpenClaim := { program := "yteabhblbefglpaadoor", sum := "dc001ab5d68d7cbe8affdce21c3537b63342daa37b7fe8877f9d8b52fc395889", func := "waybill/waybilllaw16.QueryReads", spec := "queryReads", inPlace := ["internal/bytealg.CountString", "internal/bytealg.IndexByteString", "internal/bytealg.IndexString", "math/bits.Add64", "internal/reflectlite.ValueOf", "(internal/reflectlite.Value).Type", "(internal/reflectlite.Value).IsNil", "internal/reflectlite.TypeOf", "(internal/reflectlite.Value).Elem", "(internal/reflectlite.Value).Set"], unfollowed := true, recurses := true, named := ["unicode/utf8.first", "unicode/utf8.acceptRanges", "internal/bytealg.MaxLen", "errors.errorType"], apart := false, laid := [("unicode/utf8.acceptRanges", laid_unicode_utf8_acceptRanges), ("errors.errorType", laid_errors_errorType), ("unicode/utf8.first", laid_unicode_utf8_first)], narrowed := true }
def QueryReadsUptoSaid : Prop := queryReadsUptoRow.holds Tryd.pinned (OpenSpec.upto queryReadsSpec)

/-- 'waybilllaw16.QueryJoined', WHERE WHAT IT READS IS OF BULK AT MOST 1048576: true; the input reads as it did. -/
def queryJoinedUptoRow : OpenClaim := { program := "yteabhblbefglpaadoor", sum := "dc001ab5d68d7cbe8affdce21c3537b63342daa37b7fe8877f9d8b52fc395889", func := "waybill/waybilllaw16.QueryJoined", spec := "queryJoined", inPlace := ["internal/bytealg.CountString", "internal/bytealg.IndexByteString", "internal/bytealg.IndexString", "math/bits.Add64", "internal/reflectlite.ValueOf", "(internal/reflectlite.Value).Type", "(internal/reflectlite.Value).IsNil", "internal/reflectlite.TypeOf", "(internal/reflectlite.Value).Elem", "(internal/reflectlite.Value).Set"], unfollowed := true, recurses := true, named := ["unicode/utf8.first", "unicode/utf8.acceptRanges", "internal/bytealg.MaxLen", "errors.errorType"], apart := false, laid := [("unicode/utf8.acceptRanges", laid_unicode_utf8_acceptRanges), ("errors.errorType", laid_errors_errorType), ("unicode/utf8.first", laid_unicode_utf8_first)], narrowed := true }
def QueryJoinedUptoSaid : Prop := queryJoinedUptoRow.holds Tryd.pinned (OpenSpec.upto queryJoinedSpec)

/-- 'waybilllaw18.FreshLess', WHERE WHAT IT READS IS OF BULK AT MOST 1048576: true; the input reads as it did. -/
def freshLessUptoRow : OpenClaim := { program := "yteabhblbefglpaadoor", sum := "dc001ab5d68d7cbe8affdce21c3537b63342daa37b7fe8877f9d8b52fc395889", func := "waybill/waybilllaw18.FreshLess", spec := "freshLess", inPlace := ["internal/bytealg.CountString", "internal/bytealg.IndexByteString", "internal/bytealg.IndexString", "math/bits.Add64"], named := ["unicode/utf8.first", "unicode/utf8.acceptRanges", "internal/bytealg.MaxLen"], apart := false, laid := [("unicode/utf8.acceptRanges", laid_unicode_utf8_acceptRanges), ("unicode/utf8.first", laid_unicode_utf8_first)], narrowed := true }
def FreshLessUptoSaid : Prop := freshLessUptoRow.holds Tryd.pinned (OpenSpec.upto freshLessSpec)

/-- 'waybilllaw18.FreshWaits', WHERE WHAT IT READS IS OF BULK AT MOST 1048576: true; the input reads as it did. -/
def freshWaitsUptoRow : OpenClaim := { program := "yteabhblbefglpaadoor", sum := "dc001ab5d68d7cbe8affdce21c3537b63342daa37b7fe8877f9d8b52fc395889", func := "waybill/waybilllaw18.FreshWaits", spec := "freshWaits", inPlace := ["internal/bytealg.CountString", "internal/bytealg.IndexByteString", "internal/bytealg.IndexString", "math/bits.Add64"], named := ["unicode/utf8.first", "unicode/utf8.acceptRanges", "internal/bytealg.MaxLen"], apart := false, laid := [("unicode/utf8.acceptRanges", laid_unicode_utf8_acceptRanges), ("unicode/utf8.first", laid_unicode_utf8_first)], narrowed := true }
def FreshWaitsUptoSaid : Prop := freshWaitsUptoRow.holds Tryd.pinned (OpenSpec.upto freshWaitsSpec)

/-- 'waybilllaw18.FreshGrows', WHERE WHAT IT READS IS OF BULK AT MOST 1048576: true; the input reads as it did. -/
def freshGrowsUptoRow : OpenClaim := { program := "yteabhblbefglpaadoor", sum := "dc001ab5d68d7cbe8affdce21c3537b63342daa37b7fe8877f9d8b52fc395889", func := "waybill/waybilllaw18.FreshGrows", spec := "freshGrows", inPlace := ["internal/bytealg.CountString", "internal/bytealg.IndexByteString", "internal/bytealg.IndexString", "math/bits.Add64"], named := ["unicode/utf8.first", "unicode/utf8.acceptRanges", "internal/bytealg.MaxLen"], apart := false, laid := [("unicode/utf8.acceptRanges", laid_unicode_utf8_acceptRanges), ("unicode/utf8.first", laid_unicode_utf8_first)], narrowed := true }
def FreshGrowsUptoSaid : Prop := freshGrowsUptoRow.holds Tryd.pinned (OpenSpec.upto freshGrowsSpec)

/-- 'waybilllaw16.QueryMore', WHERE WHAT IT READS IS OF BULK AT MOST 1048576: true; the input reads as it did. -/
def queryMoreUptoRow : OpenClaim := { program := "yteabhblbefglpaadoor", sum := "dc001ab5d68d7cbe8affdce21c3537b63342daa37b7fe8877f9d8b52fc395889", func := "waybill/waybilllaw16.QueryMore", spec := "queryMore", inPlace := ["internal/bytealg.CountString", "internal/bytealg.IndexByteString", "internal/bytealg.IndexString", "math/bits.Add64", "internal/reflectlite.ValueOf", "(internal/reflectlite.Value).Type", "(internal/reflectlite.Value).IsNil", "internal/reflectlite.TypeOf", "(internal/reflectlite.Value).Elem", "(internal/reflectlite.Value).Set"], unfollowed := true, recurses := true, named := ["unicode/utf8.first", "unicode/utf8.acceptRanges", "internal/bytealg.MaxLen", "errors.errorType"], apart := false, laid := [("unicode/utf8.acceptRanges", laid_unicode_utf8_acceptRanges), ("errors.errorType", laid_errors_errorType), ("unicode/utf8.first", laid_unicode_utf8_first)], narrowed := true }
def QueryMoreUptoSaid : Prop := queryMoreUptoRow.holds Tryd.pinned (OpenSpec.upto queryMoreSpec)

/-- 'waybilllaw16.QueryFinds', WHERE WHAT IT READS IS OF BULK AT MOST 1048576: true; the input reads as it did. -/
def queryFindsUptoRow : OpenClaim := { program := "yteabhblbefglpaadoor", sum := "dc001ab5d68d7cbe8affdce21c3537b63342daa37b7fe8877f9d8b52fc395889", func := "waybill/waybilllaw16.QueryFinds", spec := "queryFinds", inPlace := ["internal/bytealg.CountString", "internal/bytealg.IndexByteString", "internal/bytealg.IndexString", "math/bits.Add64", "internal/reflectlite.ValueOf", "(internal/reflectlite.Value).Type", "(internal/reflectlite.Value).IsNil", "internal/reflectlite.TypeOf", "(internal/reflectlite.Value).Elem", "(internal/reflectlite.Value).Set"], unfollowed := true, recurses := true, named := ["unicode/utf8.first", "unicode/utf8.acceptRanges", "internal/bytealg.MaxLen", "errors.errorType"], apart := false, laid := [("unicode/utf8.acceptRanges", laid_unicode_utf8_acceptRanges), ("errors.errorType", laid_errors_errorType), ("unicode/utf8.first", laid_unicode_utf8_first)], narrowed := true }
def QueryFindsUptoSaid : Prop := queryFindsUptoRow.holds Tryd.pinned (OpenSpec.upto queryFindsSpec)

end Rows
end Go.Proofs.YteabhblbefglpaaDoor
