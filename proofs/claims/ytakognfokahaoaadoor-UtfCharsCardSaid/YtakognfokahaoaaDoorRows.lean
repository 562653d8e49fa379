/-
  NARROWER THAN 'FOR EVERY INPUT', by the rows' own cells (each row's printed sentence says how): UtfNext: laid · UtfJoined: laid · UtfNames: laid · UtfHalves: laid · UtfPuts: laid · UtfChars: laid · UtfText: laid.
  DERIVED. THE GIVEN ROWS OF THIS SEAT. 7 by the template 'for every input the law returns true; each argument reads behind the call as it read before'; 0 by the template 'total and deterministic' (their statements: YtakognfokahaoaaDoorTotals.lean).
  GIVEN WITH THE SEED: the statements are not yours to turn. If you find one false, say at which input.
  Laid BY PROGRAM, IN A SANDBOX (cutbox-rows.mjs): the forced cells as the released guide's own fill.sh prints them over the translation 059c300c9dfd06a4… (all of the seat's roots in one cut). By AI agents, Wed Nov 11 2026. No macro, syntax, notation, axiom, sorry.
-/
import Derived.Test.YtakognfokahaoaaDoorChecked
import GoSem.PinnedTables
import GoSem.Claim
import GoSem.ClaimJoined
import GoSem.ClaimMapViews
import Derived.JoinedTies
import Derived.KernelRfl
namespace Go.Proofs.YtakognfokahaoaaDoor
/- THE CELL 'sum', in the pinned program and in every row, IS THE sha256 OF THE DUMP (.gsa) THAT YtakognfokahaoaaDoorProg.lean LOADS. Nothing in Lean hashes anything: it is a label: what it is worth is what the hold of that sum in a sandbox is worth. -/
noncomputable def Tryd.pinned : Pinned := { name := "ytakognfokahaoaadoor", sum := "059c300c9dfd06a4065a475b060b8ba1474f9d14e5f56a25b2cce32fd99ebe84", checked := Tryd.checked }
namespace Rows
def none {H : Type} : Left H := { results := [], args := [] }

/- WHAT THE LISTED PACKAGE-LEVEL VARIABLES READ AS WHEN THE CALL BEGINS. Each datum BY PROGRAM (the guide's laid-datum.mjs) off the statement by which the dump's own 'gosem.cut.vars' lays the variable. In a bare row this is a premise. The card (YtakognfokahaoaaDoorCards.lean) ties it to the program's text. -/
def laid_unicode_utf8_acceptRanges {H : Type} : DataW H := .agg [.agg [.lit (.int .u8 128), .lit (.int .u8 191)], .agg [.lit (.int .u8 160), .lit (.int .u8 191)], .agg [.lit (.int .u8 128), .lit (.int .u8 159)], .agg [.lit (.int .u8 144), .lit (.int .u8 191)], .agg [.lit (.int .u8 128), .lit (.int .u8 143)], .agg [.lit (.int .u8 0), .lit (.int .u8 0)], .agg [.lit (.int .u8 0), .lit (.int .u8 0)], .agg [.lit (.int .u8 0), .lit (.int .u8 0)], .agg [.lit (.int .u8 0), .lit (.int .u8 0)], .agg [.lit (.int .u8 0), .lit (.int .u8 0)], .agg [.lit (.int .u8 0), .lit (.int .u8 0)], .agg [.lit (.int .u8 0), .lit (.int .u8 0)], .agg [.lit (.int .u8 0), .lit (.int .u8 0)], .agg [.lit (.int .u8 0), .lit (.int .u8 0)], .agg [.lit (.int .u8 0), .lit (.int .u8 0)], .agg [.lit (.int .u8 0), .lit (.int .u8 0)]]
def laid_errors_errorType {H : Type} : DataW H := .iface "internal/reflectlite.rtype" (.agg [.ptr (.lit (.string [101, 114, 114, 111, 114]))])
/-- One of Go's own tables, pinned by name: the form's constant. -/
def laid_unicode_utf8_first : DataW Unit := Go.Pinned.utf8First

/-- 'waybilllaw01.UtfNext': WHATEVER THE INPUT: true; the input reads as it did. -/
def utfNextSpec : ChangeSpec := { name := "utfNext", fn := fun _ => fun
  | [d1, d2] => { results := [.lit (.bool true)], args := [d1, d2] }
  | _ => none }
def utfNextRow : OpenClaim := { program := "ytakognfokahaoaadoor", sum := "059c300c9dfd06a4065a475b060b8ba1474f9d14e5f56a25b2cce32fd99ebe84", func := "waybill/waybilllaw01.UtfNext", spec := "utfNext", inPlace := ["internal/reflectlite.TypeOf", "internal/reflectlite.ValueOf", "(internal/reflectlite.Value).Type", "(internal/reflectlite.Value).IsNil", "(internal/reflectlite.Value).Elem", "(internal/reflectlite.Value).Set"], unfollowed := true, recurses := true, named := ["unicode/utf8.first", "unicode/utf8.acceptRanges", "errors.errorType"], apart := false, laid := [("unicode/utf8.acceptRanges", laid_unicode_utf8_acceptRanges), ("errors.errorType", laid_errors_errorType), ("unicode/utf8.first", laid_unicode_utf8_first)] }
def UtfNextSaid : Prop := utfNextRow.holds Tryd.pinned (OpenSpec.ofChange utfNextSpec)

/-- ITS FALSE NEIGHBOUR: 'it returns false'. Refute it at one input. -/
def utfNextWrong : ChangeSpec := { name := "utfNext", fn := fun _ => fun
  | [d1, d2] => { results := [.lit (.bool false)], args := [d1, d2] }
  | _ => none }
def UtfNextWrongFalsely : Prop := utfNextRow.holds Tryd.pinned (OpenSpec.ofChange utfNextWrong)

/-- 'waybilllaw01.UtfJoined': WHATEVER THE INPUT: true; the input reads as it did. -/
def utfJoinedSpec : ChangeSpec := { name := "utfJoined", fn := fun _ => fun
  | [d1, d2] => { results := [.lit (.bool true)], args := [d1, d2] }
  | _ => none }
def utfJoinedRow : OpenClaim := { program := "ytakognfokahaoaadoor", sum := "059c300c9dfd06a4065a475b060b8ba1474f9d14e5f56a25b2cce32fd99ebe84", func := "waybill/waybilllaw01.UtfJoined", spec := "utfJoined", inPlace := ["internal/reflectlite.TypeOf", "internal/reflectlite.ValueOf", "(internal/reflectlite.Value).Type", "(internal/reflectlite.Value).IsNil", "(internal/reflectlite.Value).Elem", "(internal/reflectlite.Value).Set"], unfollowed := true, recurses := true, named := ["unicode/utf8.first", "unicode/utf8.acceptRanges", "errors.errorType"], apart := false, laid := [("unicode/utf8.acceptRanges", laid_unicode_utf8_acceptRanges), ("errors.errorType", laid_errors_errorType), ("unicode/utf8.first", laid_unicode_utf8_first)] }
def UtfJoinedSaid : Prop := utfJoinedRow.holds Tryd.pinned (OpenSpec.ofChange utfJoinedSpec)

/-- ITS FALSE NEIGHBOUR: 'it returns false'. Refute it at one input. -/
def utfJoinedWrong : ChangeSpec := { name := "utfJoined", fn := fun _ => fun
  | [d1, d2] => { results := [.lit (.bool false)], args := [d1, d2] }
  | _ => none }
def UtfJoinedWrongFalsely : Prop := utfJoinedRow.holds Tryd.pinned (OpenSpec.ofChange utfJoinedWrong)

/-- 'waybilllaw01.UtfNames': WHATEVER THE INPUT: true; the input reads as it did. -/
def utfNamesSpec : ChangeSpec := { name := "utfNames", fn := fun _ => fun
  | [d] => { results := [.lit (.bool true)], args := [d] }
  | _ => none }
def utfNamesRow : OpenClaim := { program := "ytakognfokahaoaadoor", sum := "059c300c9dfd06a4065a475b060b8ba1474f9d14e5f56a25b2cce32fd99ebe84", func := "waybill/waybilllaw01.UtfNames", spec := "utfNames", inPlace := ["internal/reflectlite.TypeOf", "internal/reflectlite.ValueOf", "(internal/reflectlite.Value).Type", "(internal/reflectlite.Value).IsNil", "(internal/reflectlite.Value).Elem", "(internal/reflectlite.Value).Set"], unfollowed := true, recurses := true, named := ["unicode/utf8.first", "unicode/utf8.acceptRanges", "errors.errorType"], apart := false, laid := [("unicode/utf8.acceptRanges", laid_unicode_utf8_acceptRanges), ("errors.errorType", laid_errors_errorType), ("unicode/utf8.first", laid_unicode_utf8_first)] }
def UtfNamesSaid : Prop := utfNamesRow.holds Tryd.pinned (OpenSpec.ofChange utfNamesSpec)

/-- ITS FALSE NEIGHBOUR: 'it returns false'. Refute it at one input. -/
def utfNamesWrong : ChangeSpec := { name := "utfNames", fn := fun _ => fun
  | [d] => { results := [.lit (.bool false)], args := [d] }
  | _ => none }
def UtfNamesWrongFalsely : Prop := utfNamesRow.holds Tryd.pinned (OpenSpec.ofChange utfNamesWrong)

/-- 'waybilllaw01.UtfHalves': WHATEVER THE INPUT: true; the input reads as it did. -/
def utfHalvesSpec : ChangeSpec := { name := "utfHalves", fn := fun _ => fun
  | [d1, d2] => { results := [.lit (.bool true)], args := [d1, d2] }
  | _ => none }
def utfHalvesRow : OpenClaim := { program := "ytakognfokahaoaadoor", sum := "059c300c9dfd06a4065a475b060b8ba1474f9d14e5f56a25b2cce32fd99ebe84", func := "waybill/waybilllaw01.UtfHalves", spec := "utfHalves", inPlace := ["internal/reflectlite.TypeOf", "internal/reflectlite.ValueOf", "(internal/reflectlite.Value).Type", "(internal/reflectlite.Value).IsNil", "(internal/reflectlite.Value).Elem", "(internal/reflectlite.Value).Set"], unfollowed := true, recurses := true, named := ["unicode/utf8.first", "unicode/utf8.acceptRanges", "errors.errorType"], apart := false, laid := [("unicode/utf8.acceptRanges", laid_unicode_utf8_acceptRanges), ("errors.errorType", laid_errors_errorType), ("unicode/utf8.first", laid_unicode_utf8_first)] }
def UtfHalvesSaid : Prop := utfHalvesRow.holds Tryd.pinned (OpenSpec.ofChange utfHalvesSpec)

/-- ITS FALSE NEIGHBOUR: 'it returns false'. Refute it at one input. -/
def utfHalvesWrong : ChangeSpec := { name := "utfHalves", fn := fun _ => fun
  | [d1, d2] => { results := [.lit (.bool false)], args := [d1, d2] }
  | _ => none }
def UtfHalvesWrongFalsely : Prop := utfHalvesRow.holds Tryd.pinned (OpenSpec.ofChange utfHalvesWrong)

/-- 'waybilllaw01.UtfPuts': WHATEVER THE INPUT: true; the input reads as it did. -/
def utfPutsSpec : ChangeSpec := { name := "utfPuts", fn := fun _ => fun
  | [d1, d2] => { results := [.lit (.bool true)], args := [d1, d2] }
  | _ => none }
def utfPutsRow : OpenClaim := { program := "ytakognfokahaoaadoor", sum := "059c300c9dfd06a4065a475b060b8ba1474f9d14e5f56a25b2cce32fd99ebe84", func := "waybill/waybilllaw01.UtfPuts", spec := "utfPuts", inPlace := ["internal/reflectlite.TypeOf", "internal/reflectlite.ValueOf", "(internal/reflectlite.Value).Type", "(internal/reflectlite.Value).IsNil", "(internal/reflectlite.Value).Elem", "(internal/reflectlite.Value).Set"], unfollowed := true, recurses := true, named := ["unicode/utf8.first", "unicode/utf8.acceptRanges", "errors.errorType"], apart := false, laid := [("unicode/utf8.acceptRanges", laid_unicode_utf8_acceptRanges), ("errors.errorType", laid_errors_errorType), ("unicode/utf8.first", laid_unicode_utf8_first)] }
def UtfPutsSaid : Prop := utfPutsRow.holds Tryd.pinned (OpenSpec.ofChange utfPutsSpec)

/-- ITS FALSE NEIGHBOUR: 'it returns false'. Refute it at one input. -/
def utfPutsWrong : ChangeSpec := { name := "utfPuts", fn := fun _ => fun
  | [d1, d2] => { results := [.lit (.bool false)], args := [d1, d2] }
  | _ => none }
def UtfPutsWrongFalsely : Prop := utfPutsRow.holds Tryd.pinned (OpenSpec.ofChange utfPutsWrong)

/-- 'waybilllaw01.UtfChars': WHATEVER THE INPUT: true; the input reads as it did. -/
def utfCharsSpec : ChangeSpec := { name := "utfChars", fn := fun _ => fun
  | [d] => { results := [.lit (.bool true)], args := [d] }
  | _ => none }
def utfCharsRow : OpenClaim := { program := "ytakognfokahaoaadoor", sum := "059c300c9dfd06a4065a475b060b8ba1474f9d14e5f56a25b2cce32fd99ebe84", func := "waybill/waybilllaw01.UtfChars", spec := "utfChars", inPlace := ["internal/reflectlite.TypeOf", "internal/reflectlite.ValueOf", "(internal/reflectlite.Value).Type", "(internal/reflectlite.Value).IsNil", "(internal/reflectlite.Value).Elem", "(internal/reflectlite.Value).Set"], unfollowed := true, recurses := true, named := ["unicode/utf8.first", "unicode/utf8.acceptRanges", "errors.errorType"], apart := false, laid := [("unicode/utf8.acceptRanges", laid_unicode_utf8_acceptRanges), ("errors.errorType", laid_errors_errorType), ("unicode/utf8.first", laid_unicode_utf8_first)] }
def UtfCharsSaid : Prop := utfCharsRow.holds Tryd.pinned (OpenSpec.ofChange utfCharsSpec)

/-- ITS FALSE NEIGHBOUR: 'it returns false'. Refute it at one input. -/
def utfCharsWrong : ChangeSpec := { name := "utfChars", fn := fun _ => fun
  | [d] => { results := [.lit (.bool false)], args := [d] }
  | _ => none }
def UtfCharsWrongFalsely : Prop := utfCharsRow.holds Tryd.pinned (OpenSpec.ofChange utfCharsWrong)

/-- 'waybilllaw01.UtfText': WHATEVER THE INPUT: true; the input reads as it did. -/
def utfTextSpec : ChangeSpec := { name := "utfText", fn := fun _ => fun
  | [d] => { results := [.lit (.bool true)], args := [d] }
  | _ => none }
def utfTextRow : OpenClaim := { program := "ytakognfokahaoaadoor", sum := "059c300c9dfd06a4065a475b060b8ba1474f9d14e5f56a25b2cce32fd99ebe84", func := "waybill/waybilllaw01.UtfText", spec := "utfText", inPlace := ["internal/reflectlite.TypeOf", "internal/reflectlite.ValueOf", "(internal/reflectlite.Value).Type", "(internal/reflectlite.Value).IsNil", "(internal/reflectlite.Value).Elem", "(internal/reflectlite.Value).Set"], unfollowed := true, recurses := true, named := ["unicode/utf8.first", "unicode/utf8.acceptRanges", "errors.errorType"], apart := false, laid := [("unicode/utf8.acceptRanges", laid_unicode_utf8_acceptRanges), ("errors.errorType", laid_errors_errorType), ("unicode/utf8.first", laid_unicode_utf8_first)] }
def UtfTextSaid : Prop := utfTextRow.holds Tryd.pinned (OpenSpec.ofChange utfTextSpec)

/-- ITS FALSE NEIGHBOUR: 'it returns false'. Refute it at one input. -/
def utfTextWrong : ChangeSpec := { name := "utfText", fn := fun _ => fun
  | [d] => { results := [.lit (.bool false)], args := [d] }
  | _ => none }
def UtfTextWrongFalsely : Prop := utfTextRow.holds Tryd.pinned (OpenSpec.ofChange utfTextWrong)

/- THE SECOND FORM. 'bulk': how many values and letters a reading holds, each counted each time it is reached (what is shared counts as often as it is met; a slice's spare places count too). A statement '..UptoSaid' is the law's where the arguments, and the package variables that the reading takes, are together of bulk at most 1048576: NARROWER than '..Said'. Prove '..Said' where nothing that the law and all that it calls make is longer than what came in: it says more and counts as full. Else prove '..UptoSaid'. A law counts once. -/
mutual
def uptoBulk {H : Type} : DataW H → Nat
  | .lit (.string bytes) => bytes.length + 1
  | .lit _ => 1
  | .nil => 1
  | .ptr d => uptoBulk d + 1
  | .slice elems spare => uptoBulkAll elems + uptoBulkAll spare + 1
  | .agg parts => uptoBulkAll parts + 1
  | .iface _ d => uptoBulk d + 1
  | .map entries => uptoBulkEntries entries + 1
  | .held _ => 1
def uptoBulkAll {H : Type} : List (DataW H) → Nat
  | [] => 0
  | d :: r => uptoBulk d + uptoBulkAll r
def uptoBulkEntries {H : Type} : List (Lit × DataW H) → Nat
  | [] => 0
  | x :: r => uptoBulkEntry x + uptoBulkEntries r
def uptoBulkEntry {H : Type} : Lit × DataW H → Nat
  | (.string bytes, d) => bytes.length + uptoBulk d + 1
  | (_, d) => uptoBulk d + 1
 end
def uptoSmall : (H : Type) → List (DataW H) → Bool := fun _ ds => decide (uptoBulkAll ds ≤ 1048576)
def OpenSpec.upto (s : _root_.Go.ChangeSpec) : _root_.Go.OpenSpec := { _root_.Go.OpenSpec.ofChange s with cond := some uptoSmall }

/-- 'waybilllaw01.UtfNext', WHERE WHAT IT READS IS OF BULK AT MOST 1048576: true; the input reads as it did. -/
def utfNextUptoRow : OpenClaim := { program := "ytakognfokahaoaadoor", sum := "059c300c9dfd06a4065a475b060b8ba1474f9d14e5f56a25b2cce32fd99ebe84", func := "waybill/waybilllaw01.UtfNext", spec := "utfNext", inPlace := ["internal/reflectlite.TypeOf", "internal/reflectlite.ValueOf", "(internal/reflectlite.Value).Type", "(internal/reflectlite.Value).IsNil", "(internal/reflectlite.Value).Elem", "(internal/reflectlite.Value).Set"], unfollowed := true, recurses := true, named := ["unicode/utf8.first", "unicode/utf8.acceptRanges", "errors.errorType"], apart := false, laid := [("unicode/utf8.acceptRanges", laid_unicode_utf8_acceptRanges), ("errors.errorType", laid_errors_errorType), ("unicode/utf8.first", laid_unicode_utf8_first)], narrowed := true }
def UtfNextUptoSaid : Prop := utfNextUptoRow.holds Tryd.pinned (OpenSpec.upto utfNextSpec)

/-- 'waybilllaw01.UtfJoined', WHERE WHAT IT READS IS OF BULK AT MOST 1048576: true; the input reads as it did. -/
def utfJoinedUptoRow : OpenClaim := { program := "ytakognfokahaoaadoor", sum := "059c300c9dfd06a4065a475b060b8ba1474f9d14e5f56a25b2cce32fd99ebe84", func := "waybill/waybilllaw01.UtfJoined", spec := "utfJoined", inPlace := ["internal/reflectlite.TypeOf", "internal/reflectlite.ValueOf", "(internal/reflectlite.Value).Type", "(internal/reflectlite.Value).IsNil", "(internal/reflectlite.Value).Elem", "(internal/reflectlite.Value).Set"], unfollowed := true, recurses := true, named := ["unicode/utf8.first", "unicode/utf8.acceptRanges", "errors.errorType"], apart := false, laid := [("unicode/utf8.acceptRanges", laid_unicode_utf8_acceptRanges), ("errors.errorType", laid_errors_errorType), ("unicode/utf8.first", laid_unicode_utf8_first)], narrowed := true }
def UtfJoinedUptoSaid : Prop := utfJoinedUptoRow.holds Tryd.pinned (OpenSpec.upto utfJoinedSpec)

/-- 'waybilllaw01.UtfNames', WHERE WHAT IT READS IS OF BULK AT MOST 1048576: true; the input reads as it did. -/
def utfNamesUptoRow : OpenClaim := { program := "ytakognfokahaoaadoor", sum := "059c300c9dfd06a4065a475b060b8ba1474f9d14e5f56a25b2cce32fd99ebe84", func := "waybill/waybilllaw01.UtfNames", spec := "utfNames", inPlace := ["internal/reflectlite.TypeOf", "internal/reflectlite.ValueOf", "(internal/reflectlite.Value).Type", "(internal/reflectlite.Value).IsNil", "(internal/reflectlite.Value).Elem", "(internal/reflectlite.Value).Set"], unfollowed := true, recurses := true, named := ["unicode/utf8.first", "unicode/utf8.acceptRanges", "errors.errorType"], apart := false, laid := [("unicode/utf8.acceptRanges", laid_unicode_utf8_acceptRanges), ("errors.errorType", laid_errors_errorType), ("unicode/utf8.first", laid_unicode_utf8_first)], narrowed := true }
def UtfNamesUptoSaid : Prop := utfNamesUptoRow.holds Tryd.pinned (OpenSpec.upto utfNamesSpec)

/-- 'waybilllaw01.UtfHalves', WHERE WHAT IT READS IS OF BULK AT MOST 1048576: true; the input reads as it did. -/
def utfHalvesUptoRow : OpenClaim := { program := "ytakognfokahaoaadoor", sum := "059c300c9dfd06a4065a475b060b8ba1474f9d14e5f56a25b2cce32fd99ebe84", func := "waybill/waybilllaw01.UtfHalves", spec := "utfHalves", inPlace := ["internal/reflectlite.TypeOf", "internal/reflectlite.ValueOf", "(internal/reflectlite.Value).Type", "(internal/reflectlite.Value).IsNil", "(internal/reflectlite.Value).Elem", "(internal/reflectlite.Value).Set"], unfollowed := true, recurses := true, named := ["unicode/utf8.first", "unicode/utf8.acceptRanges", "errors.errorType"], apart := false, laid := [("unicode/utf8.acceptRanges", laid_unicode_utf8_acceptRanges), ("errors.errorType", laid_errors_errorType), ("unicode/utf8.first", laid_unicode_utf8_first)], narrowed := true }
def UtfHalvesUptoSaid : Prop := utfHalvesUptoRow.holds Tryd.pinned (OpenSpec.upto utfHalvesSpec)

/-- 'waybilllaw01.UtfPuts', WHERE WHAT IT READS IS OF BULK AT MOST 1048576: true; the input reads as it did. -/
def utfPutsUptoRow : OpenClaim := { program := "ytakognfokahaoaadoor", sum := "059c300c9dfd06a4065a475b060b8ba1474f9d14e5f56a25b2cce32fd99ebe84", func := "waybill/waybilllaw01.UtfPuts", spec := "utfPuts", inPlace := ["internal/reflectlite.TypeOf", "internal/reflectlite.ValueOf", "(internal/reflectlite.Value).Type", "(internal/reflectlite.Value).IsNil", "(internal/reflectlite.Value).Elem", "(internal/reflectlite.Value).Set"], unfollowed := true, recurses := true, named := ["unicode/utf8.first", "unicode/utf8.acceptRanges", "errors.errorType"], apart := false, laid := [("unicode/utf8.acceptRanges", laid_unicode_utf8_acceptRanges), ("errors.errorType", laid_errors_errorType), ("unicode/utf8.first", laid_unicode_utf8_first)], narrowed := true }
def UtfPutsUptoSaid : Prop := utfPutsUptoRow.holds Tryd.pinned (OpenSpec.upto utfPutsSpec)

/-- 'waybilllaw01.UtfChars', WHERE WHAT IT READS IS OF BULK AT MOST 1048576: true; the input reads as it did. -/
def utfCharsUptoRow : OpenClaim := { program := "ytakognfokahaoaadoor", sum := "059c300c9dfd06a4065a475b060b8ba1474f9d14e5f56a25b2cce32fd99ebe84", func := "waybill/waybilllaw01.UtfChars", spec := "utfChars", inPlace := ["internal/reflectlite.TypeOf", "internal/reflectlite.ValueOf", "(internal/reflectlite.Value).Type", "(internal/reflectlite.Value).IsNil", "(internal/reflectlite.Value).Elem", "(internal/reflectlite.Value).Set"], unfollowed := true, recurses := true, named := ["unicode/utf8.first", "unicode/utf8.acceptRanges", "errors.errorType"], apart := false, laid := [("unicode/utf8.acceptRanges", laid_unicode_utf8_acceptRanges), ("errors.errorType", laid_errors_errorType), ("unicode/utf8.first", laid_unicode_utf8_first)], narrowed := true }
def UtfCharsUptoSaid : Prop := utfCharsUptoRow.holds Tryd.pinned (OpenSpec.upto utfCharsSpec)

/-- 'waybilllaw01.UtfText', WHERE WHAT IT READS IS OF BULK AT MOST 1048576: true; the input reads as it did. -/
def utfTextUptoRow : OpenClaim := { program := "ytakognfokahaoaadoor", sum := "059c300c9dfd06a4065a475b060b8ba1474f9d14e5f56a25b2cce32fd99ebe84", func := "waybill/waybilllaw01.UtfText", spec := "utfText", inPlace := ["internal/reflectlite.TypeOf", "internal/reflectlite.ValueOf", "(internal/reflectlite.Value).Type", "(internal/reflectlite.Value).IsNil", "(internal/reflectlite.Value).Elem", "(internal/reflectlite.Value).Set"], unfollowed := true, recurses := true, named := ["unicode/utf8.first", "unicode/utf8.acceptRanges", "errors.errorType"], apart := false, laid := [("unicode/utf8.acceptRanges", laid_unicode_utf8_acceptRanges), ("errors.errorType", laid_errors_errorType), ("unicode/utf8.first", laid_unicode_utf8_first)], narrowed := true }
def UtfTextUptoSaid : Prop := utfTextUptoRow.holds Tryd.pinned (OpenSpec.upto utfTextSpec)

end Rows
end Go.Proofs.YtakognfokahaoaaDoor
