/-
  No cell of these rows narrows 'for every input' (looked for: loops, veiled, ifaces, maps, wideKeys, modest, calm, conditions, laid).
  DERIVED. THE GIVEN ROWS OF THIS SEAT. 4 by the template 'for every input the law returns true; each argument reads behind the call as it read before'; 0 by the template 'total and deterministic' (their statements: YtaeeafdnejdocaaTotals.lean).
  GIVEN WITH THE SEED: the statements are not yours to turn. If you find one false, say at which input.
  Laid BY PROGRAM, IN A SANDBOX (cutbox-rows.mjs): the forced cells as the released guide's own fill.sh prints them over the translation 1deff8ae31942342… (all of the seat's roots in one cut). By AI agents, Wed Nov 11 2026. No macro, syntax, notation, axiom, sorry.
-/
import Derived.Test.YtaeeafdnejdocaaChecked
import GoSem.Claim
import GoSem.ClaimJoined
import GoSem.ClaimMapViews
import Derived.JoinedTies
import Derived.KernelRfl
namespace Go.Proofs.Ytaeeafdnejdocaa
/- THE CELL 'sum', in the pinned program and in every row, IS THE sha256 OF THE DUMP (.gsa) THAT YtaeeafdnejdocaaProg.lean LOADS. Nothing in Lean hashes anything: it is a label: what it is worth is what the hold of that sum in a sandbox is worth. -/
noncomputable def Try.pinned : Pinned := { name := "ytaeeafdnejdocaa", sum := "1deff8ae31942342a692536275818d5a0849a6d5be1ff3bcc5edad9f2dd1d3e7", checked := Try.checked }
namespace Rows
def none {H : Type} : Left H := { results := [], args := [] }

/-- 'laws.FnExactBlockEnergy': WHATEVER THE INPUT: true; the input reads as it did. -/
def fnExactBlockEnergySpec : ChangeSpec := { name := "fnExactBlockEnergy", fn := fun _ => fun
  | [d] => { results := [.lit (.bool true)], args := [d] }
  | _ => none }
def fnExactBlockEnergyRow : OpenClaim := { program := "ytaeeafdnejdocaa", sum := "1deff8ae31942342a692536275818d5a0849a6d5be1ff3bcc5edad9f2dd1d3e7", func := "loop.example/videocodec/laws.FnExactBlockEnergy", spec := "fnExactBlockEnergy", apart := false }
def FnExactBlockEnergySaid : Prop := fnExactBlockEnergyRow.holds Try.pinned (OpenSpec.ofChange fnExactBlockEnergySpec)

/-- ITS FALSE NEIGHBOUR: 'it returns false'. Refute it at one input. -/
def fnExactBlockEnergyWrong : ChangeSpec := { name := "fnExactBlockEnergy", fn := fun _ => fun
  | [d] => { results := [.lit (.bool false)], args := [d] }
  | _ => none }
def FnExactBlockEnergyWrongFalsely : Prop := fnExactBlockEnergyRow.holds Try.pinned (OpenSpec.ofChange fnExactBlockEnergyWrong)

/-- 'laws.FnExactForwardTransform': WHATEVER THE INPUT: true; the input reads as it did. -/
def fnExactForwardTransformSpec : ChangeSpec := { name := "fnExactForwardTransform", fn := fun _ => fun
  | [d] => { results := [.lit (.bool true)], args := [d] }
  | _ => none }
def fnExactForwardTransformRow : OpenClaim := { program := "ytaeeafdnejdocaa", sum := "1deff8ae31942342a692536275818d5a0849a6d5be1ff3bcc5edad9f2dd1d3e7", func := "loop.example/videocodec/laws.FnExactForwardTransform", spec := "fnExactForwardTransform", apart := false }
def FnExactForwardTransformSaid : Prop := fnExactForwardTransformRow.holds Try.pinned (OpenSpec.ofChange fnExactForwardTransformSpec)

/-- ITS FALSE NEIGHBOUR: 'it returns false'. Refute it at one input. -/
def fnExactForwardTransformWrong : ChangeSpec := { name := "fnExactForwardTransform", fn := fun _ => fun
  | [d] => { results := [.lit (.bool false)], args := [d] }
  | _ => none }
def FnExactForwardTransformWrongFalsely : Prop := fnExactForwardTransformRow.holds Try.pinned (OpenSpec.ofChange fnExactForwardTransformWrong)

/-- 'laws.FnExactTransformCost': WHATEVER THE INPUT: true; the input reads as it did. -/
def fnExactTransformCostSpec : ChangeSpec := { name := "fnExactTransformCost", fn := fun _ => fun
  | [d1, d2] => { results := [.lit (.bool true)], args := [d1, d2] }
  | _ => none }
def fnExactTransformCostRow : OpenClaim := { program := "ytaeeafdnejdocaa", sum := "1deff8ae31942342a692536275818d5a0849a6d5be1ff3bcc5edad9f2dd1d3e7", func := "loop.example/videocodec/laws.FnExactTransformCost", spec := "fnExactTransformCost", apart := false }
def FnExactTransformCostSaid : Prop := fnExactTransformCostRow.holds Try.pinned (OpenSpec.ofChange fnExactTransformCostSpec)

/-- ITS FALSE NEIGHBOUR: 'it returns false'. Refute it at one input. -/
def fnExactTransformCostWrong : ChangeSpec := { name := "fnExactTransformCost", fn := fun _ => fun
  | [d1, d2] => { results := [.lit (.bool false)], args := [d1, d2] }
  | _ => none }
def FnExactTransformCostWrongFalsely : Prop := fnExactTransformCostRow.holds Try.pinned (OpenSpec.ofChange fnExactTransformCostWrong)

/-- 'laws.FnExactInverseTransform': WHATEVER THE INPUT: true; the input reads as it did. -/
def fnExactInverseTransformSpec : ChangeSpec := { name := "fnExactInverseTransform", fn := fun _ => fun
  | [d] => { results := [.lit (.bool true)], args := [d] }
  | _ => none }
def fnExactInverseTransformRow : OpenClaim := { program := "ytaeeafdnejdocaa", sum := "1deff8ae31942342a692536275818d5a0849a6d5be1ff3bcc5edad9f2dd1d3e7", func := "loop.example/videocodec/laws.FnExactInverseTransform", spec := "fnExactInverseTransform", apart := false }
def FnExactInverseTransformSaid : Prop := fnExactInverseTransformRow.holds Try.pinned (OpenSpec.ofChange fnExactInverseTransformSpec)

/-- ITS FALSE NEIGHBOUR: 'it returns false'. Refute it at one input. -/
def fnExactInverseTransformWrong : ChangeSpec := { name := "fnExactInverseTransform", fn := fun _ => fun
  | [d] => { results := [.lit (.bool false)], args := [d] }
  | _ => none }
def FnExactInverseTransformWrongFalsely : Prop := fnExactInverseTransformRow.holds Try.pinned (OpenSpec.ofChange fnExactInverseTransformWrong)

/- THE SECOND FORM. 'bulk': how many values and letters a reading holds, each counted each time it is reached (what is shared counts as often as it is met; a slice's spare places count too). A statement '..UptoSaid' is the law's where the arguments, and the package variables that the reading takes, are together of bulk at most 1048576: NARROWER than '..Said'. Prove '..Said' where nothing that the law and all that it calls make is longer than what came in: it says more and counts as full. Else prove '..UptoSaid'. A law counts once. -/
mutual
def uptoBulk {H : Type} : DataW H → Nat
  | .lit (.string bytes) => bytes.length + 1
  | .lit _ => 1
  | .nil => 1
  | .ptr d => uptoBulk d + 1
  | .slice elems spare => uptoBulkAll elems + uptoBulkAll spare + 1
  | .agg parts => uptoBulkAll parts + 1
  | .iface _ d => uptoBulk d + 1
  | .map entries => uptoBulkEntries entries + 1
  | .held _ => 1
def uptoBulkAll {H : Type} : List (DataW H) → Nat
  | [] => 0
  | d :: r => uptoBulk d + uptoBulkAll r
def uptoBulkEntries {H : Type} : List (Lit × DataW H) → Nat
  | [] => 0
  | x :: r => uptoBulkEntry x + uptoBulkEntries r
def uptoBulkEntry {H : Type} : Lit × DataW H → Nat
  | (.string bytes, d) => bytes.length + uptoBulk d + 1
  | (_, d) => uptoBulk d + 1
 end
def uptoSmall : (H : Type) → List (DataW H) → Bool := fun _ ds => decide (uptoBulkAll ds ≤ 1048576)
def OpenSpec.upto (s : _root_.Go.ChangeSpec) : _root_.Go.OpenSpec := { _root_.Go.OpenSpec.ofChange s with cond := some uptoSmall }

/-- 'laws.FnExactBlockEnergy', WHERE WHAT IT READS IS OF BULK AT MOST 1048576: true; the input reads as it did. -/
def fnExactBlockEnergyUptoRow : OpenClaim := { program := "ytaeeafdnejdocaa", sum := "1deff8ae31942342a692536275818d5a0849a6d5be1ff3bcc5edad9f2dd1d3e7", func := "loop.example/videocodec/laws.FnExactBlockEnergy", spec := "fnExactBlockEnergy", apart := false, narrowed := true }
def FnExactBlockEnergyUptoSaid : Prop := fnExactBlockEnergyUptoRow.holds Try.pinned (OpenSpec.upto fnExactBlockEnergySpec)

/-- 'laws.FnExactForwardTransform', WHERE WHAT IT READS IS OF BULK AT MOST 1048576: true; the input reads as it did. -/
def fnExactForwardTransformUptoRow : OpenClaim := { program := "ytaeeafdnejdocaa", sum := "1deff8ae31942342a692536275818d5a0849a6d5be1ff3bcc5edad9f2dd1d3e7", func := "loop.example/videocodec/laws.FnExactForwardTransform", spec := "fnExactForwardTransform", apart := false, narrowed := true }
def FnExactForwardTransformUptoSaid : Prop := fnExactForwardTransformUptoRow.holds Try.pinned (OpenSpec.upto fnExactForwardTransformSpec)

/-- 'laws.FnExactTransformCost', WHERE WHAT IT READS IS OF BULK AT MOST 1048576: true; the input reads as it did. -/
def fnExactTransformCostUptoRow : OpenClaim := { program := "ytaeeafdnejdocaa", sum := "1deff8ae31942342a692536275818d5a0849a6d5be1ff3bcc5edad9f2dd1d3e7", func := "loop.example/videocodec/laws.FnExactTransformCost", spec := "fnExactTransformCost", apart := false, narrowed := true }
def FnExactTransformCostUptoSaid : Prop := fnExactTransformCostUptoRow.holds Try.pinned (OpenSpec.upto fnExactTransformCostSpec)

/-- 'laws.FnExactInverseTransform', WHERE WHAT IT READS IS OF BULK AT MOST 1048576: true; the input reads as it did. -/
def fnExactInverseTransformUptoRow : OpenClaim := { program := "ytaeeafdnejdocaa", sum := "1deff8ae31942342a692536275818d5a0849a6d5be1ff3bcc5edad9f2dd1d3e7", func := "loop.example/videocodec/laws.FnExactInverseTransform", spec := "fnExactInverseTransform", apart := false, narrowed := true }
def FnExactInverseTransformUptoSaid : Prop := fnExactInverseTransformUptoRow.holds Try.pinned (OpenSpec.upto fnExactInverseTransformSpec)

end Rows
end Go.Proofs.Ytaeeafdnejdocaa
