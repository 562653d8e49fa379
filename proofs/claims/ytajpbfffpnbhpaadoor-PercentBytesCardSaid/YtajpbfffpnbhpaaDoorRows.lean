/-
  NARROWER THAN 'FOR EVERY INPUT', by the rows' own cells (each row's printed sentence says how): PercentReads: laid · PercentWrites: laid · PercentNormal: laid · PercentBytes: laid.
  DERIVED. THE GIVEN ROWS OF THIS SEAT. 4 by the template 'for every input the law returns true; each argument reads behind the call as it read before'; 0 by the template 'total and deterministic' (their statements: YtajpbfffpnbhpaaDoorTotals.lean).
  GIVEN WITH THE SEED: the statements are not yours to turn. If you find one false, say at which input.
  Laid BY PROGRAM, IN A SANDBOX (cutbox-rows.mjs): the forced cells as the released guide's own fill.sh prints them over the translation e233400f8d21746a… (all of the seat's roots in one cut). By AI agents, Wed Nov 11 2026. No macro, syntax, notation, axiom, sorry.
-/
import Derived.Test.YtajpbfffpnbhpaaDoorChecked
import GoSem.Claim
import GoSem.ClaimJoined
import GoSem.ClaimMapViews
import Derived.JoinedTies
import Derived.KernelRfl
namespace Go.Proofs.YtajpbfffpnbhpaaDoor
/- THE CELL 'sum', in the pinned program and in every row, IS THE sha256 OF THE DUMP (.gsa) THAT YtajpbfffpnbhpaaDoorProg.lean LOADS. Nothing in Lean hashes anything: it is a label: what it is worth is what the hold of that sum in a sandbox is worth. -/
noncomputable def Tryd.pinned : Pinned := { name := "ytajpbfffpnbhpaadoor", sum := "e233400f8d21746a2bc1541a3ac729da1866a5a9f692e54584f98b47f9cdbe21", checked := Tryd.checked }
namespace Rows
def none {H : Type} : Left H := { results := [], args := [] }

/- WHAT THE LISTED PACKAGE-LEVEL VARIABLES READ AS WHEN THE CALL BEGINS. Each datum BY PROGRAM (the guide's laid-datum.mjs) off the statement by which the dump's own 'gosem.cut.vars' lays the variable. In a bare row this is a premise. The card (YtajpbfffpnbhpaaDoorCards.lean) ties it to the program's text. -/
def laid_errors_errorType {H : Type} : DataW H := .iface "internal/reflectlite.rtype" (.agg [.ptr (.lit (.string [101, 114, 114, 111, 114]))])

/-- 'waybilllaw03.PercentReads': WHATEVER THE INPUT: true; the input reads as it did. -/
def percentReadsSpec : ChangeSpec := { name := "percentReads", fn := fun _ => fun
  | [d] => { results := [.lit (.bool true)], args := [d] }
  | _ => none }
def percentReadsRow : OpenClaim := { program := "ytajpbfffpnbhpaadoor", sum := "e233400f8d21746a2bc1541a3ac729da1866a5a9f692e54584f98b47f9cdbe21", func := "waybill/waybilllaw03.PercentReads", spec := "percentReads", inPlace := ["internal/bytealg.IndexByteString", "internal/abi.NoEscape", "math/bits.Add64", "internal/reflectlite.TypeOf", "internal/reflectlite.ValueOf", "(internal/reflectlite.Value).Type", "(internal/reflectlite.Value).IsNil", "(internal/reflectlite.Value).Elem", "(internal/reflectlite.Value).Set"], unfollowed := true, recurses := true, named := ["errors.errorType"], apart := false, laid := [("errors.errorType", laid_errors_errorType)] }
def PercentReadsSaid : Prop := percentReadsRow.holds Tryd.pinned (OpenSpec.ofChange percentReadsSpec)

/-- ITS FALSE NEIGHBOUR: 'it returns false'. Refute it at one input. -/
def percentReadsWrong : ChangeSpec := { name := "percentReads", fn := fun _ => fun
  | [d] => { results := [.lit (.bool false)], args := [d] }
  | _ => none }
def PercentReadsWrongFalsely : Prop := percentReadsRow.holds Tryd.pinned (OpenSpec.ofChange percentReadsWrong)

/-- 'waybilllaw03.PercentWrites': WHATEVER THE INPUT: true; the input reads as it did. -/
def percentWritesSpec : ChangeSpec := { name := "percentWrites", fn := fun _ => fun
  | [d1, d2] => { results := [.lit (.bool true)], args := [d1, d2] }
  | _ => none }
def percentWritesRow : OpenClaim := { program := "ytajpbfffpnbhpaadoor", sum := "e233400f8d21746a2bc1541a3ac729da1866a5a9f692e54584f98b47f9cdbe21", func := "waybill/waybilllaw03.PercentWrites", spec := "percentWrites", inPlace := ["internal/bytealg.IndexByteString", "internal/abi.NoEscape", "math/bits.Add64", "internal/reflectlite.TypeOf", "internal/reflectlite.ValueOf", "(internal/reflectlite.Value).Type", "(internal/reflectlite.Value).IsNil", "(internal/reflectlite.Value).Elem", "(internal/reflectlite.Value).Set"], unfollowed := true, recurses := true, named := ["errors.errorType"], apart := false, laid := [("errors.errorType", laid_errors_errorType)] }
def PercentWritesSaid : Prop := percentWritesRow.holds Tryd.pinned (OpenSpec.ofChange percentWritesSpec)

/-- ITS FALSE NEIGHBOUR: 'it returns false'. Refute it at one input. -/
def percentWritesWrong : ChangeSpec := { name := "percentWrites", fn := fun _ => fun
  | [d1, d2] => { results := [.lit (.bool false)], args := [d1, d2] }
  | _ => none }
def PercentWritesWrongFalsely : Prop := percentWritesRow.holds Tryd.pinned (OpenSpec.ofChange percentWritesWrong)

/-- 'waybilllaw03.PercentNormal': WHATEVER THE INPUT: true; the input reads as it did. -/
def percentNormalSpec : ChangeSpec := { name := "percentNormal", fn := fun _ => fun
  | [d1, d2, d3] => { results := [.lit (.bool true)], args := [d1, d2, d3] }
  | _ => none }
def percentNormalRow : OpenClaim := { program := "ytajpbfffpnbhpaadoor", sum := "e233400f8d21746a2bc1541a3ac729da1866a5a9f692e54584f98b47f9cdbe21", func := "waybill/waybilllaw03.PercentNormal", spec := "percentNormal", inPlace := ["internal/bytealg.IndexByteString", "internal/abi.NoEscape", "math/bits.Add64", "internal/reflectlite.TypeOf", "internal/reflectlite.ValueOf", "(internal/reflectlite.Value).Type", "(internal/reflectlite.Value).IsNil", "(internal/reflectlite.Value).Elem", "(internal/reflectlite.Value).Set"], unfollowed := true, recurses := true, named := ["errors.errorType"], apart := false, laid := [("errors.errorType", laid_errors_errorType)] }
def PercentNormalSaid : Prop := percentNormalRow.holds Tryd.pinned (OpenSpec.ofChange percentNormalSpec)

/-- ITS FALSE NEIGHBOUR: 'it returns false'. Refute it at one input. -/
def percentNormalWrong : ChangeSpec := { name := "percentNormal", fn := fun _ => fun
  | [d1, d2, d3] => { results := [.lit (.bool false)], args := [d1, d2, d3] }
  | _ => none }
def PercentNormalWrongFalsely : Prop := percentNormalRow.holds Tryd.pinned (OpenSpec.ofChange percentNormalWrong)

/-- 'waybilllaw03.PercentBytes': WHATEVER THE INPUT: true; the input reads as it did. -/
def percentBytesSpec : ChangeSpec := { name := "percentBytes", fn := fun _ => fun
  | [d] => { results := [.lit (.bool true)], args := [d] }
  | _ => none }
def percentBytesRow : OpenClaim := { program := "ytajpbfffpnbhpaadoor", sum := "e233400f8d21746a2bc1541a3ac729da1866a5a9f692e54584f98b47f9cdbe21", func := "waybill/waybilllaw03.PercentBytes", spec := "percentBytes", inPlace := ["internal/bytealg.IndexByteString", "internal/abi.NoEscape", "math/bits.Add64", "internal/reflectlite.TypeOf", "internal/reflectlite.ValueOf", "(internal/reflectlite.Value).Type", "(internal/reflectlite.Value).IsNil", "(internal/reflectlite.Value).Elem", "(internal/reflectlite.Value).Set"], unfollowed := true, recurses := true, named := ["errors.errorType"], apart := false, laid := [("errors.errorType", laid_errors_errorType)] }
def PercentBytesSaid : Prop := percentBytesRow.holds Tryd.pinned (OpenSpec.ofChange percentBytesSpec)

/-- ITS FALSE NEIGHBOUR: 'it returns false'. Refute it at one input. -/
def percentBytesWrong : ChangeSpec := { name := "percentBytes", fn := fun _ => fun
  | [d] => { results := [.lit (.bool false)], args := [d] }
  | _ => none }
def PercentBytesWrongFalsely : Prop := percentBytesRow.holds Tryd.pinned (OpenSpec.ofChange percentBytesWrong)

/- THE SECOND FORM. 'bulk': how many values and letters a reading holds, each counted each time it is reached (what is shared counts as often as it is met; a slice's spare places count too). A statement '..UptoSaid' is the law's where the arguments, and the package variables that the reading takes, are together of bulk at most 1048576: NARROWER than '..Said'. Prove '..Said' where nothing that the law and all that it calls make is longer than what came in: it says more and counts as full. Else prove '..UptoSaid'. A law counts once. -/
mutual
def uptoBulk {H : Type} : DataW H → Nat
  | .lit (.string bytes) => bytes.length + 1
  | .lit _ => 1
  | .nil => 1
  | .ptr d => uptoBulk d + 1
  | .slice elems spare => uptoBulkAll elems + uptoBulkAll spare + 1
  | .agg parts => uptoBulkAll parts + 1
  | .iface _ d => uptoBulk d + 1
  | .map entries => uptoBulkEntries entries + 1
  | .held _ => 1
def uptoBulkAll {H : Type} : List (DataW H) → Nat
  | [] => 0
  | d :: r => uptoBulk d + uptoBulkAll r
def uptoBulkEntries {H : Type} : List (Lit × DataW H) → Nat
  | [] => 0
  | x :: r => uptoBulkEntry x + uptoBulkEntries r
def uptoBulkEntry {H : Type} : Lit × DataW H → Nat
  | (.string bytes, d) => bytes.length + uptoBulk d + 1
  | (_, d) => uptoBulk d + 1
 end
def uptoSmall : (H : Type) → List (DataW H) → Bool := fun _ ds => decide (uptoBulkAll ds ≤ 1048576)
def OpenSpec.upto (s : _root_.Go.ChangeSpec) : _root_.Go.OpenSpec := { _root_.Go.OpenSpec.ofChange s with cond := some uptoSmall }

/-- 'waybilllaw03.PercentReads', WHERE WHAT IT READS IS OF BULK AT MOST 1048576: true; the input reads as it did. -/
def percentReadsUptoRow : OpenClaim := { program := "ytajpbfffpnbhpaadoor", sum := "e233400f8d21746a2bc1541a3ac729da1866a5a9f692e54584f98b47f9cdbe21", func := "waybill/waybilllaw03.PercentReads", spec := "percentReads", inPlace := ["internal/bytealg.IndexByteString", "internal/abi.NoEscape", "math/bits.Add64", "internal/reflectlite.TypeOf", "internal/reflectlite.ValueOf", "(internal/reflectlite.Value).Type", "(internal/reflectlite.Value).IsNil", "(internal/reflectlite.Value).Elem", "(internal/reflectlite.Value).Set"], unfollowed := true, recurses := true, named := ["errors.errorType"], apart := false, laid := [("errors.errorType", laid_errors_errorType)], narrowed := true }
def PercentReadsUptoSaid : Prop := percentReadsUptoRow.holds Tryd.pinned (OpenSpec.upto percentReadsSpec)

/-- 'waybilllaw03.PercentWrites', WHERE WHAT IT READS IS OF BULK AT MOST 1048576: true; the input reads as it did. -/
def percentWritesUptoRow : OpenClaim := { program := "ytajpbfffpnbhpaadoor", sum := "e233400f8d21746a2bc1541a3ac729da1866a5a9f692e54584f98b47f9cdbe21", func := "waybill/waybilllaw03.PercentWrites", spec := "percentWrites", inPlace := ["internal/bytealg.IndexByteString", "internal/abi.NoEscape", "math/bits.Add64", "internal/reflectlite.TypeOf", "internal/reflectlite.ValueOf", "(internal/reflectlite.Value).Type", "(internal/reflectlite.Value).IsNil", "(internal/reflectlite.Value).Elem", "(internal/reflectlite.Value).Set"], unfollowed := true, recurses := true, named := ["errors.errorType"], apart := false, laid := [("errors.errorType", laid_errors_errorType)], narrowed := true }
def PercentWritesUptoSaid : Prop := percentWritesUptoRow.holds Tryd.pinned (OpenSpec.upto percentWritesSpec)

/-- 'waybilllaw03.PercentNormal', WHERE WHAT IT READS IS OF BULK AT MOST 1048576: true; the input reads as it did. -/
def percentNormalUptoRow : OpenClaim := { program := "ytajpbfffpnbhpaadoor", sum := "e233400f8d21746a2bc1541a3ac729da1866a5a9f692e54584f98b47f9cdbe21", func := "waybill/waybilllaw03.PercentNormal", spec := "percentNormal", inPlace := ["internal/bytealg.IndexByteString", "internal/abi.NoEscape", "math/bits.Add64", "internal/reflectlite.TypeOf", "internal/reflectlite.ValueOf", "(internal/reflectlite.Value).Type", "(internal/reflectlite.Value).IsNil", "(internal/reflectlite.Value).Elem", "(internal/reflectlite.Value).Set"], unfollowed := true, recurses := true, named := ["errors.errorType"], apart := false, laid := [("errors.errorType", laid_errors_errorType)], narrowed := true }
def PercentNormalUptoSaid : Prop := percentNormalUptoRow.holds Tryd.pinned (OpenSpec.upto percentNormalSpec)

/-- 'waybilllaw03.PercentBytes', WHERE WHAT IT READS IS OF BULK AT MOST 1048576: true; the input reads as it did. -/
def percentBytesUptoRow : OpenClaim := { program := "ytajpbfffpnbhpaadoor", sum := "e233400f8d21746a2bc1541a3ac729da1866a5a9f692e54584f98b47f9cdbe21", func := "waybill/waybilllaw03.PercentBytes", spec := "percentBytes", inPlace := ["internal/bytealg.IndexByteString", "internal/abi.NoEscape", "math/bits.Add64", "internal/reflectlite.TypeOf", "internal/reflectlite.ValueOf", "(internal/reflectlite.Value).Type", "(internal/reflectlite.Value).IsNil", "(internal/reflectlite.Value).Elem", "(internal/reflectlite.Value).Set"], unfollowed := true, recurses := true, named := ["errors.errorType"], apart := false, laid := [("errors.errorType", laid_errors_errorType)], narrowed := true }
def PercentBytesUptoSaid : Prop := percentBytesUptoRow.holds Tryd.pinned (OpenSpec.upto percentBytesSpec)

end Rows
end Go.Proofs.YtajpbfffpnbhpaaDoor
