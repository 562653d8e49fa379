/-
  No cell of these rows narrows 'for every input' (looked for: loops, veiled, ifaces, maps, wideKeys, modest, calm, conditions, laid).
  DERIVED. THE GIVEN ROWS OF THIS SEAT. 2 by the template 'for every input the law returns true; each argument reads behind the call as it read before'; 0 by the template 'total and deterministic' (their statements: YtiogomkonladaaaTotals.lean).
  GIVEN WITH THE SEED: the statements are not yours to turn. If you find one false, say at which input.
  Laid BY PROGRAM, IN A SANDBOX (cutbox-rows.mjs): the forced cells as the released guide's own fill.sh prints them over the translation b483e84cddfcf221… (all of the seat's roots in one cut). By AI agents, Wed Nov 11 2026. No macro, syntax, notation, axiom, sorry.
-/
import Derived.Test.YtiogomkonladaaaChecked
import GoSem.Claim
import GoSem.ClaimJoined
import GoSem.ClaimMapViews
import Derived.JoinedTies
import Derived.KernelRfl
namespace Go.Proofs.Ytiogomkonladaaa
/- THE CELL 'sum', in the pinned program and in every row, IS THE sha256 OF THE DUMP (.gsa) THAT YtiogomkonladaaaProg.lean LOADS. Nothing in Lean hashes anything: it is a label: what it is worth is what the hold of that sum in a sandbox is worth. -/
noncomputable def Try.pinned : Pinned := { name := "ytiogomkonladaaa", sum := "b483e84cddfcf221730642f5ea5f8d5c390e3fa8ffdce4356753d8091a6a311a", checked := Try.checked }
namespace Rows
def none {H : Type} : Left H := { results := [], args := [] }

/-- 'waybilllaw02.FoldJoined': WHATEVER THE INPUT: true; the input reads as it did. -/
def foldJoinedSpec : ChangeSpec := { name := "foldJoined", fn := fun _ => fun
  | [d1, d2] => { results := [.lit (.bool true)], args := [d1, d2] }
  | _ => none }
def foldJoinedRow : OpenClaim := { program := "ytiogomkonladaaa", sum := "b483e84cddfcf221730642f5ea5f8d5c390e3fa8ffdce4356753d8091a6a311a", func := "waybill/waybilllaw02.FoldJoined", spec := "foldJoined", inPlace := ["math/bits.Add64"], apart := false }
def FoldJoinedSaid : Prop := foldJoinedRow.holds Try.pinned (OpenSpec.ofChange foldJoinedSpec)

/-- ITS FALSE NEIGHBOUR: 'it returns false'. Refute it at one input. -/
def foldJoinedWrong : ChangeSpec := { name := "foldJoined", fn := fun _ => fun
  | [d1, d2] => { results := [.lit (.bool false)], args := [d1, d2] }
  | _ => none }
def FoldJoinedWrongFalsely : Prop := foldJoinedRow.holds Try.pinned (OpenSpec.ofChange foldJoinedWrong)

/-- 'waybilllaw02.FoldDigits': WHATEVER THE INPUT: true; the input reads as it did. -/
def foldDigitsSpec : ChangeSpec := { name := "foldDigits", fn := fun _ => fun
  | [d1, d2] => { results := [.lit (.bool true)], args := [d1, d2] }
  | _ => none }
def foldDigitsRow : OpenClaim := { program := "ytiogomkonladaaa", sum := "b483e84cddfcf221730642f5ea5f8d5c390e3fa8ffdce4356753d8091a6a311a", func := "waybill/waybilllaw02.FoldDigits", spec := "foldDigits", inPlace := ["math/bits.Add64"], apart := false }
def FoldDigitsSaid : Prop := foldDigitsRow.holds Try.pinned (OpenSpec.ofChange foldDigitsSpec)

/-- ITS FALSE NEIGHBOUR: 'it returns false'. Refute it at one input. -/
def foldDigitsWrong : ChangeSpec := { name := "foldDigits", fn := fun _ => fun
  | [d1, d2] => { results := [.lit (.bool false)], args := [d1, d2] }
  | _ => none }
def FoldDigitsWrongFalsely : Prop := foldDigitsRow.holds Try.pinned (OpenSpec.ofChange foldDigitsWrong)

/- THE SECOND FORM. 'bulk': how many values and letters a reading holds, each counted each time it is reached (what is shared counts as often as it is met; a slice's spare places count too). A statement '..UptoSaid' is the law's where the arguments, and the package variables that the reading takes, are together of bulk at most 1048576: NARROWER than '..Said'. Prove '..Said' where nothing that the law and all that it calls make is longer than what came in: it says more and counts as full. Else prove '..UptoSaid'. A law counts once. -/
mutual
def uptoBulk {H : Type} : DataW H → Nat
  | .lit (.string bytes) => bytes.length + 1
  | .lit _ => 1
  | .nil => 1
  | .ptr d => uptoBulk d + 1
  | .slice elems spare => uptoBulkAll elems + uptoBulkAll spare + 1
  | .agg parts => uptoBulkAll parts + 1
  | .iface _ d => uptoBulk d + 1
  | .map entries => uptoBulkEntries entries + 1
  | .held _ => 1
def uptoBulkAll {H : Type} : List (DataW H) → Nat
  | [] => 0
  | d :: r => uptoBulk d + uptoBulkAll r
def uptoBulkEntries {H : Type} : List (Lit × DataW H) → Nat
  | [] => 0
  | x :: r => uptoBulkEntry x + uptoBulkEntries r
def uptoBulkEntry {H : Type} : Lit × DataW H → Nat
  | (.string bytes, d) => bytes.length + uptoBulk d + 1
  | (_, d) => uptoBulk d + 1
 end
def uptoSmall : (H : Type) → List (DataW H) → Bool := fun _ ds => decide (uptoBulkAll ds ≤ 1048576)
def OpenSpec.upto (s : _root_.Go.ChangeSpec) : _root_.Go.OpenSpec := { _root_.Go.OpenSpec.ofChange s with cond := some uptoSmall }

/-- 'waybilllaw02.FoldJoined', WHERE WHAT IT READS IS OF BULK AT MOST 1048576: true; the input reads as it did. -/
def foldJoinedUptoRow : OpenClaim := { program := "ytiogomkonladaaa", sum := "b483e84cddfcf221730642f5ea5f8d5c390e3fa8ffdce4356753d8091a6a311a", func := "waybill/waybilllaw02.FoldJoined", spec := "foldJoined", inPlace := ["math/bits.Add64"], apart := false, narrowed := true }
def FoldJoinedUptoSaid : Prop := foldJoinedUptoRow.holds Try.pinned (OpenSpec.upto foldJoinedSpec)

/-- 'waybilllaw02.FoldDigits', WHERE WHAT IT READS IS OF BULK AT MOST 1048576: true; the input reads as it did. -/
def foldDigitsUptoRow : OpenClaim := { program := "ytiogomkonladaaa", sum := "b483e84cddfcf221730642f5ea5f8d5c390e3fa8ffdce4356753d8091a6a311a", func := "waybill/waybilllaw02.FoldDigits", spec := "foldDigits", inPlace := ["math/bits.Add64"], apart := false, narrowed := true }
def FoldDigitsUptoSaid : Prop := foldDigitsUptoRow.holds Try.pinned (OpenSpec.upto foldDigitsSpec)

end Rows
end Go.Proofs.Ytiogomkonladaaa
