/-
  NARROWER THAN 'FOR EVERY INPUT', by the rows' own cells (each row's printed sentence says how): QuadNumbers: laid · QuadReads: laid · QuadTexts: laid.
  DERIVED. THE GIVEN ROWS OF THIS SEAT. 3 by the template 'for every input the law returns true; each argument reads behind the call as it read before'; 0 by the template 'total and deterministic' (their statements: YtpaeloadmjblpaaDoorTotals.lean).
  GIVEN WITH THE SEED: the statements are not yours to turn. If you find one false, say at which input.
  Laid BY PROGRAM, IN A SANDBOX (cutbox-rows.mjs): the forced cells as the released guide's own fill.sh prints them over the translation cef21e0460f2da15… (all of the seat's roots in one cut). By AI agents, Wed Nov 11 2026. No macro, syntax, notation, axiom, sorry.
-/
import Derived.Test.YtpaeloadmjblpaaDoorChecked
import GoSem.Claim
import GoSem.ClaimJoined
import GoSem.ClaimMapViews
import Derived.JoinedTies
import Derived.KernelRfl
namespace Go.Proofs.YtpaeloadmjblpaaDoor
/- THE CELL 'sum', in the pinned program and in every row, IS THE sha256 OF THE DUMP (.gsa) THAT YtpaeloadmjblpaaDoorProg.lean LOADS. Nothing in Lean hashes anything: it is a label: what it is worth is what the hold of that sum in a sandbox is worth. -/
noncomputable def Tryd.pinned : Pinned := { name := "ytpaeloadmjblpaadoor", sum := "cef21e0460f2da154f634b770c8885a3f01220524be9259f82d4f9c9424d9543", checked := Tryd.checked }
namespace Rows
def none {H : Type} : Left H := { results := [], args := [] }

/- WHAT THE LISTED PACKAGE-LEVEL VARIABLES READ AS WHEN THE CALL BEGINS. Each datum BY PROGRAM (the guide's laid-datum.mjs) off the statement by which the dump's own 'gosem.cut.vars' lays the variable. In a bare row this is a premise. The card (YtpaeloadmjblpaaDoorCards.lean) ties it to the program's text. -/
def laid_errors_errorType {H : Type} : DataW H := .iface "internal/reflectlite.rtype" (.agg [.ptr (.lit (.string [101, 114, 114, 111, 114]))])

/-- 'waybilllaw11.QuadNumbers': WHATEVER THE INPUT: true; the input reads as it did. -/
def quadNumbersSpec : ChangeSpec := { name := "quadNumbers", fn := fun _ => fun
  | [d] => { results := [.lit (.bool true)], args := [d] }
  | _ => none }
def quadNumbersRow : OpenClaim := { program := "ytpaeloadmjblpaadoor", sum := "cef21e0460f2da154f634b770c8885a3f01220524be9259f82d4f9c9424d9543", func := "waybill/waybilllaw11.QuadNumbers", spec := "quadNumbers", inPlace := ["internal/bytealg.IndexByteString", "math/bits.Add64", "internal/reflectlite.TypeOf", "internal/reflectlite.ValueOf", "(internal/reflectlite.Value).Type", "(internal/reflectlite.Value).IsNil", "(internal/reflectlite.Value).Elem", "(internal/reflectlite.Value).Set"], unfollowed := true, recurses := true, named := ["errors.errorType"], apart := false, laid := [("errors.errorType", laid_errors_errorType)] }
def QuadNumbersSaid : Prop := quadNumbersRow.holds Tryd.pinned (OpenSpec.ofChange quadNumbersSpec)

/-- ITS FALSE NEIGHBOUR: 'it returns false'. Refute it at one input. -/
def quadNumbersWrong : ChangeSpec := { name := "quadNumbers", fn := fun _ => fun
  | [d] => { results := [.lit (.bool false)], args := [d] }
  | _ => none }
def QuadNumbersWrongFalsely : Prop := quadNumbersRow.holds Tryd.pinned (OpenSpec.ofChange quadNumbersWrong)

/-- 'waybilllaw11.QuadReads': WHATEVER THE INPUT: true; the input reads as it did. -/
def quadReadsSpec : ChangeSpec := { name := "quadReads", fn := fun _ => fun
  | [d] => { results := [.lit (.bool true)], args := [d] }
  | _ => none }
def quadReadsRow : OpenClaim := { program := "ytpaeloadmjblpaadoor", sum := "cef21e0460f2da154f634b770c8885a3f01220524be9259f82d4f9c9424d9543", func := "waybill/waybilllaw11.QuadReads", spec := "quadReads", inPlace := ["internal/bytealg.IndexByteString", "math/bits.Add64", "internal/reflectlite.TypeOf", "internal/reflectlite.ValueOf", "(internal/reflectlite.Value).Type", "(internal/reflectlite.Value).IsNil", "(internal/reflectlite.Value).Elem", "(internal/reflectlite.Value).Set"], unfollowed := true, recurses := true, named := ["errors.errorType"], apart := false, laid := [("errors.errorType", laid_errors_errorType)] }
def QuadReadsSaid : Prop := quadReadsRow.holds Tryd.pinned (OpenSpec.ofChange quadReadsSpec)

/-- ITS FALSE NEIGHBOUR: 'it returns false'. Refute it at one input. -/
def quadReadsWrong : ChangeSpec := { name := "quadReads", fn := fun _ => fun
  | [d] => { results := [.lit (.bool false)], args := [d] }
  | _ => none }
def QuadReadsWrongFalsely : Prop := quadReadsRow.holds Tryd.pinned (OpenSpec.ofChange quadReadsWrong)

/-- 'waybilllaw11.QuadTexts': WHATEVER THE INPUT: true; the input reads as it did. -/
def quadTextsSpec : ChangeSpec := { name := "quadTexts", fn := fun _ => fun
  | [d1, d2] => { results := [.lit (.bool true)], args := [d1, d2] }
  | _ => none }
def quadTextsRow : OpenClaim := { program := "ytpaeloadmjblpaadoor", sum := "cef21e0460f2da154f634b770c8885a3f01220524be9259f82d4f9c9424d9543", func := "waybill/waybilllaw11.QuadTexts", spec := "quadTexts", inPlace := ["internal/bytealg.IndexByteString", "math/bits.Add64", "internal/reflectlite.TypeOf", "internal/reflectlite.ValueOf", "(internal/reflectlite.Value).Type", "(internal/reflectlite.Value).IsNil", "(internal/reflectlite.Value).Elem", "(internal/reflectlite.Value).Set", "internal/abi.NoEscape", "internal/bytealg.MakeNoZero"], unfollowed := true, recurses := true, named := ["errors.errorType"], apart := false, laid := [("errors.errorType", laid_errors_errorType)] }
def QuadTextsSaid : Prop := quadTextsRow.holds Tryd.pinned (OpenSpec.ofChange quadTextsSpec)

/-- ITS FALSE NEIGHBOUR: 'it returns false'. Refute it at one input. -/
def quadTextsWrong : ChangeSpec := { name := "quadTexts", fn := fun _ => fun
  | [d1, d2] => { results := [.lit (.bool false)], args := [d1, d2] }
  | _ => none }
def QuadTextsWrongFalsely : Prop := quadTextsRow.holds Tryd.pinned (OpenSpec.ofChange quadTextsWrong)

/- THE SECOND FORM. 'bulk': how many values and letters a reading holds, each counted each time it is reached (what is shared counts as often as it is met; a slice's spare places count too). A statement '..UptoSaid' is the law's where the arguments, and the package variables that the reading takes, are together of bulk at most 1048576: NARROWER than '..Said'. Prove '..Said' where nothing that the law and all that it calls make is longer than what came in: it says more and counts as full. Else prove '..UptoSaid'. A law counts once. -/
mutual
def uptoBulk {H : Type} : DataW H → Nat
  | .lit (.string bytes) => bytes.length + 1
  | .lit _ => 1
  | .nil => 1
  | .ptr d => uptoBulk d + 1
  | .slice elems spare => uptoBulkAll elems + uptoBulkAll spare + 1
  | .agg parts => uptoBulkAll parts + 1
  | .iface _ d => uptoBulk d + 1
  | .map entries => uptoBulkEntries entries + 1
  | .held _ => 1
def uptoBulkAll {H : Type} : List (DataW H) → Nat
  | [] => 0
  | d :: r => uptoBulk d + uptoBulkAll r
def uptoBulkEntries {H : Type} : List (Lit × DataW H) → Nat
  | [] => 0
  | x :: r => uptoBulkEntry x + uptoBulkEntries r
def uptoBulkEntry {H : Type} : Lit × DataW H → Nat
  | (.string bytes, d) => bytes.length + uptoBulk d + 1
  | (_, d) => uptoBulk d + 1
 end
def uptoSmall : (H : Type) → List (DataW H) → Bool := fun _ ds => decide (uptoBulkAll ds ≤ 1048576)
def OpenSpec.upto (s : _root_.Go.ChangeSpec) : _root_.Go.OpenSpec := { _root_.Go.OpenSpec.ofChange s with cond := some uptoSmall }

/-- 'waybilllaw11.QuadNumbers', WHERE WHAT IT READS IS OF BULK AT MOST 1048576: true; the input reads as it did. -/
def quadNumbersUptoRow : OpenClaim := { program := "ytpaeloadmjblpaadoor", sum := "cef21e0460f2da154f634b770c8885a3f01220524be9259f82d4f9c9424d9543", func := "waybill/waybilllaw11.QuadNumbers", spec := "quadNumbers", inPlace := ["internal/bytealg.IndexByteString", "math/bits.Add64", "internal/reflectlite.TypeOf", "internal/reflectlite.ValueOf", "(internal/reflectlite.Value).Type", "(internal/reflectlite.Value).IsNil", "(internal/reflectlite.Value).Elem", "(internal/reflectlite.Value).Set"], unfollowed := true, recurses := true, named := ["errors.errorType"], apart := false, laid := [("errors.errorType", laid_errors_errorType)], narrowed := true }
def QuadNumbersUptoSaid : Prop := quadNumbersUptoRow.holds Tryd.pinned (OpenSpec.upto quadNumbersSpec)

/-- 'waybilllaw11.QuadReads', WHERE WHAT IT READS IS OF BULK AT MOST 1048576: true; the input reads as it did. -/
def quadReadsUptoRow : OpenClaim := { program := "ytpaeloadmjblpaadoor", sum := "cef21e0460f2da154f634b770c8885a3f01220524be9259f82d4f9c9424d9543", func := "waybill/waybilllaw11.QuadReads", spec := "quadReads", inPlace := ["internal/bytealg.IndexByteString", "math/bits.Add64", "internal/reflectlite.TypeOf", "internal/reflectlite.ValueOf", "(internal/reflectlite.Value).Type", "(internal/reflectlite.Value).IsNil", "(internal/reflectlite.Value).Elem", "(internal/reflectlite.Value).Set"], unfollowed := true, recurses := true, named := ["errors.errorType"], apart := false, laid := [("errors.errorType", laid_errors_errorType)], narrowed := true }
def QuadReadsUptoSaid : Prop := quadReadsUptoRow.holds Tryd.pinned (OpenSpec.upto quadReadsSpec)

/-- 'waybilllaw11.QuadTexts', WHERE WHAT IT READS IS OF BULK AT MOST 1048576: true; the input reads as it did. -/
def quadTextsUptoRow : OpenClaim := { program := "ytpaeloadmjblpaadoor", sum := "cef21e0460f2da154f634b770c8885a3f01220524be9259f82d4f9c9424d9543", func := "waybill/waybilllaw11.QuadTexts", spec := "quadTexts", inPlace := ["internal/bytealg.IndexByteString", "math/bits.Add64", "internal/reflectlite.TypeOf", "internal/reflectlite.ValueOf", "(internal/reflectlite.Value).Type", "(internal/reflectlite.Value).IsNil", "(internal/reflectlite.Value).Elem", "(internal/reflectlite.Value).Set", "internal/abi.NoEscape", "internal/bytealg.MakeNoZero"], unfollowed := true, recurses := true, named := ["errors.errorType"], apart := false, laid := [("errors.errorType", laid_errors_errorType)], narrowed := true }
def QuadTextsUptoSaid : Prop := quadTextsUptoRow.holds Tryd.pinned (OpenSpec.upto quadTextsSpec)

end Rows
end Go.Proofs.YtpaeloadmjblpaaDoor
