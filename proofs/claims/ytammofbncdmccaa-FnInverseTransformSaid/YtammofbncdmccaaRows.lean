/-
  No cell of these rows narrows 'for every input' (looked for: loops, veiled, ifaces, maps, wideKeys, modest, calm, conditions, laid).
  DERIVED. THE GIVEN ROWS OF THIS SEAT. 5 by the template 'for every input the law returns true; each argument reads behind the call as it read before'; 0 by the template 'total and deterministic' (their statements: YtammofbncdmccaaTotals.lean).
  GIVEN WITH THE SEED: the statements are not yours to turn. If you find one false, say at which input.
  Laid BY PROGRAM, IN A SANDBOX (cutbox-rows.mjs): the forced cells as the released guide's own fill.sh prints them over the translation 3942a8a27fba4705… (all of the seat's roots in one cut). By AI agents, Wed Nov 11 2026. No macro, syntax, notation, axiom, sorry.
-/
import Derived.Test.YtammofbncdmccaaChecked
import GoSem.Claim
import GoSem.ClaimJoined
import GoSem.ClaimMapViews
import Derived.JoinedTies
import Derived.KernelRfl
namespace Go.Proofs.Ytammofbncdmccaa
/- THE CELL 'sum', in the pinned program and in every row, IS THE sha256 OF THE DUMP (.gsa) THAT YtammofbncdmccaaProg.lean LOADS. Nothing in Lean hashes anything: it is a label: what it is worth is what the hold of that sum in a sandbox is worth. -/
noncomputable def Try.pinned : Pinned := { name := "ytammofbncdmccaa", sum := "3942a8a27fba470511bb99b8f9acba0ba5c407d284c7a69828bc253bbc8bdb7d", checked := Try.checked }
namespace Rows
def none {H : Type} : Left H := { results := [], args := [] }

/-- 'laws.FnBlockEnergy': WHATEVER THE INPUT: true; the input reads as it did. -/
def fnBlockEnergySpec : ChangeSpec := { name := "fnBlockEnergy", fn := fun _ => fun
  | [d] => { results := [.lit (.bool true)], args := [d] }
  | _ => none }
def fnBlockEnergyRow : OpenClaim := { program := "ytammofbncdmccaa", sum := "3942a8a27fba470511bb99b8f9acba0ba5c407d284c7a69828bc253bbc8bdb7d", func := "loop.example/videocodec/laws.FnBlockEnergy", spec := "fnBlockEnergy", apart := false }
def FnBlockEnergySaid : Prop := fnBlockEnergyRow.holds Try.pinned (OpenSpec.ofChange fnBlockEnergySpec)

/-- ITS FALSE NEIGHBOUR: 'it returns false'. Refute it at one input. -/
def fnBlockEnergyWrong : ChangeSpec := { name := "fnBlockEnergy", fn := fun _ => fun
  | [d] => { results := [.lit (.bool false)], args := [d] }
  | _ => none }
def FnBlockEnergyWrongFalsely : Prop := fnBlockEnergyRow.holds Try.pinned (OpenSpec.ofChange fnBlockEnergyWrong)

/-- 'laws.FnTransformLinear': WHATEVER THE INPUT: true; the input reads as it did. -/
def fnTransformLinearSpec : ChangeSpec := { name := "fnTransformLinear", fn := fun _ => fun
  | [d] => { results := [.lit (.bool true)], args := [d] }
  | _ => none }
def fnTransformLinearRow : OpenClaim := { program := "ytammofbncdmccaa", sum := "3942a8a27fba470511bb99b8f9acba0ba5c407d284c7a69828bc253bbc8bdb7d", func := "loop.example/videocodec/laws.FnTransformLinear", spec := "fnTransformLinear", apart := false }
def FnTransformLinearSaid : Prop := fnTransformLinearRow.holds Try.pinned (OpenSpec.ofChange fnTransformLinearSpec)

/-- ITS FALSE NEIGHBOUR: 'it returns false'. Refute it at one input. -/
def fnTransformLinearWrong : ChangeSpec := { name := "fnTransformLinear", fn := fun _ => fun
  | [d] => { results := [.lit (.bool false)], args := [d] }
  | _ => none }
def FnTransformLinearWrongFalsely : Prop := fnTransformLinearRow.holds Try.pinned (OpenSpec.ofChange fnTransformLinearWrong)

/-- 'laws.FnInverseTransform': WHATEVER THE INPUT: true; the input reads as it did. -/
def fnInverseTransformSpec : ChangeSpec := { name := "fnInverseTransform", fn := fun _ => fun
  | [d] => { results := [.lit (.bool true)], args := [d] }
  | _ => none }
def fnInverseTransformRow : OpenClaim := { program := "ytammofbncdmccaa", sum := "3942a8a27fba470511bb99b8f9acba0ba5c407d284c7a69828bc253bbc8bdb7d", func := "loop.example/videocodec/laws.FnInverseTransform", spec := "fnInverseTransform", apart := false }
def FnInverseTransformSaid : Prop := fnInverseTransformRow.holds Try.pinned (OpenSpec.ofChange fnInverseTransformSpec)

/-- ITS FALSE NEIGHBOUR: 'it returns false'. Refute it at one input. -/
def fnInverseTransformWrong : ChangeSpec := { name := "fnInverseTransform", fn := fun _ => fun
  | [d] => { results := [.lit (.bool false)], args := [d] }
  | _ => none }
def FnInverseTransformWrongFalsely : Prop := fnInverseTransformRow.holds Try.pinned (OpenSpec.ofChange fnInverseTransformWrong)

/-- 'laws.FnForwardTransform': WHATEVER THE INPUT: true; the input reads as it did. -/
def fnForwardTransformSpec : ChangeSpec := { name := "fnForwardTransform", fn := fun _ => fun
  | [d] => { results := [.lit (.bool true)], args := [d] }
  | _ => none }
def fnForwardTransformRow : OpenClaim := { program := "ytammofbncdmccaa", sum := "3942a8a27fba470511bb99b8f9acba0ba5c407d284c7a69828bc253bbc8bdb7d", func := "loop.example/videocodec/laws.FnForwardTransform", spec := "fnForwardTransform", apart := false }
def FnForwardTransformSaid : Prop := fnForwardTransformRow.holds Try.pinned (OpenSpec.ofChange fnForwardTransformSpec)

/-- ITS FALSE NEIGHBOUR: 'it returns false'. Refute it at one input. -/
def fnForwardTransformWrong : ChangeSpec := { name := "fnForwardTransform", fn := fun _ => fun
  | [d] => { results := [.lit (.bool false)], args := [d] }
  | _ => none }
def FnForwardTransformWrongFalsely : Prop := fnForwardTransformRow.holds Try.pinned (OpenSpec.ofChange fnForwardTransformWrong)

/-- 'laws.FnTransformCost': WHATEVER THE INPUT: true; the input reads as it did. -/
def fnTransformCostSpec : ChangeSpec := { name := "fnTransformCost", fn := fun _ => fun
  | [d] => { results := [.lit (.bool true)], args := [d] }
  | _ => none }
def fnTransformCostRow : OpenClaim := { program := "ytammofbncdmccaa", sum := "3942a8a27fba470511bb99b8f9acba0ba5c407d284c7a69828bc253bbc8bdb7d", func := "loop.example/videocodec/laws.FnTransformCost", spec := "fnTransformCost", apart := false }
def FnTransformCostSaid : Prop := fnTransformCostRow.holds Try.pinned (OpenSpec.ofChange fnTransformCostSpec)

/-- ITS FALSE NEIGHBOUR: 'it returns false'. Refute it at one input. -/
def fnTransformCostWrong : ChangeSpec := { name := "fnTransformCost", fn := fun _ => fun
  | [d] => { results := [.lit (.bool false)], args := [d] }
  | _ => none }
def FnTransformCostWrongFalsely : Prop := fnTransformCostRow.holds Try.pinned (OpenSpec.ofChange fnTransformCostWrong)

/- THE SECOND FORM. 'bulk': how many values and letters a reading holds, each counted each time it is reached (what is shared counts as often as it is met; a slice's spare places count too). A statement '..UptoSaid' is the law's where the arguments, and the package variables that the reading takes, are together of bulk at most 1048576: NARROWER than '..Said'. Prove '..Said' where nothing that the law and all that it calls make is longer than what came in: it says more and counts as full. Else prove '..UptoSaid'. A law counts once. -/
mutual
def uptoBulk {H : Type} : DataW H → Nat
  | .lit (.string bytes) => bytes.length + 1
  | .lit _ => 1
  | .nil => 1
  | .ptr d => uptoBulk d + 1
  | .slice elems spare => uptoBulkAll elems + uptoBulkAll spare + 1
  | .agg parts => uptoBulkAll parts + 1
  | .iface _ d => uptoBulk d + 1
  | .map entries => uptoBulkEntries entries + 1
  | .held _ => 1
def uptoBulkAll {H : Type} : List (DataW H) → Nat
  | [] => 0
  | d :: r => uptoBulk d + uptoBulkAll r
def uptoBulkEntries {H : Type} : List (Lit × DataW H) → Nat
  | [] => 0
  | x :: r => uptoBulkEntry x + uptoBulkEntries r
def uptoBulkEntry {H : Type} : Lit × DataW H → Nat
  | (.string bytes, d) => bytes.length + uptoBulk d + 1
  | (_, d) => uptoBulk d + 1
 end
def uptoSmall : (H : Type) → List (DataW H) → Bool := fun _ ds => decide (uptoBulkAll ds ≤ 1048576)
def OpenSpec.upto (s : _root_.Go.ChangeSpec) : _root_.Go.OpenSpec := { _root_.Go.OpenSpec.ofChange s with cond := some uptoSmall }

/-- 'laws.FnBlockEnergy', WHERE WHAT IT READS IS OF BULK AT MOST 1048576: true; the input reads as it did. -/
def fnBlockEnergyUptoRow : OpenClaim := { program := "ytammofbncdmccaa", sum := "3942a8a27fba470511bb99b8f9acba0ba5c407d284c7a69828bc253bbc8bdb7d", func := "loop.example/videocodec/laws.FnBlockEnergy", spec := "fnBlockEnergy", apart := false, narrowed := true }
def FnBlockEnergyUptoSaid : Prop := fnBlockEnergyUptoRow.holds Try.pinned (OpenSpec.upto fnBlockEnergySpec)

/-- 'laws.FnTransformLinear', WHERE WHAT IT READS IS OF BULK AT MOST 1048576: true; the input reads as it did. -/
def fnTransformLinearUptoRow : OpenClaim := { program := "ytammofbncdmccaa", sum := "3942a8a27fba470511bb99b8f9acba0ba5c407d284c7a69828bc253bbc8bdb7d", func := "loop.example/videocodec/laws.FnTransformLinear", spec := "fnTransformLinear", apart := false, narrowed := true }
def FnTransformLinearUptoSaid : Prop := fnTransformLinearUptoRow.holds Try.pinned (OpenSpec.upto fnTransformLinearSpec)

/-- 'laws.FnInverseTransform', WHERE WHAT IT READS IS OF BULK AT MOST 1048576: true; the input reads as it did. -/
def fnInverseTransformUptoRow : OpenClaim := { program := "ytammofbncdmccaa", sum := "3942a8a27fba470511bb99b8f9acba0ba5c407d284c7a69828bc253bbc8bdb7d", func := "loop.example/videocodec/laws.FnInverseTransform", spec := "fnInverseTransform", apart := false, narrowed := true }
def FnInverseTransformUptoSaid : Prop := fnInverseTransformUptoRow.holds Try.pinned (OpenSpec.upto fnInverseTransformSpec)

/-- 'laws.FnForwardTransform', WHERE WHAT IT READS IS OF BULK AT MOST 1048576: true; the input reads as it did. -/
def fnForwardTransformUptoRow : OpenClaim := { program := "ytammofbncdmccaa", sum := "3942a8a27fba470511bb99b8f9acba0ba5c407d284c7a69828bc253bbc8bdb7d", func := "loop.example/videocodec/laws.FnForwardTransform", spec := "fnForwardTransform", apart := false, narrowed := true }
def FnForwardTransformUptoSaid : Prop := fnForwardTransformUptoRow.holds Try.pinned (OpenSpec.upto fnForwardTransformSpec)

/-- 'laws.FnTransformCost', WHERE WHAT IT READS IS OF BULK AT MOST 1048576: true; the input reads as it did. -/
def fnTransformCostUptoRow : OpenClaim := { program := "ytammofbncdmccaa", sum := "3942a8a27fba470511bb99b8f9acba0ba5c407d284c7a69828bc253bbc8bdb7d", func := "loop.example/videocodec/laws.FnTransformCost", spec := "fnTransformCost", apart := false, narrowed := true }
def FnTransformCostUptoSaid : Prop := fnTransformCostUptoRow.holds Try.pinned (OpenSpec.upto fnTransformCostSpec)

end Rows
end Go.Proofs.Ytammofbncdmccaa
