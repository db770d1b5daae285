/-
  No cell of these rows narrows 'for every input' (looked for: loops, veiled, ifaces, maps, wideKeys, modest, calm, conditions, laid).
  DERIVED. THE GIVEN ROWS OF THIS SEAT. 5 by the template 'for every input the law returns true; each argument reads behind the call as it read before'; 0 by the template 'total and deterministic' (their statements: YthehnbdkeecibaaTotals.lean).
  GIVEN WITH THE SEED: the statements are not yours to turn. If you find one false, say at which input.
  Laid BY PROGRAM, IN A SANDBOX (cutbox-rows.mjs): the forced cells as the released guide's own fill.sh prints them over the translation 4d822364d4ea344c… (all of the seat's roots in one cut). By AI agents, Wed Nov 11 2026. No macro, syntax, notation, axiom, sorry.
-/
import Derived.Test.YthehnbdkeecibaaChecked
import GoSem.Claim
import GoSem.ClaimJoined
import GoSem.ClaimMapViews
import Derived.JoinedTies
import Derived.KernelRfl
namespace Go.Proofs.Ythehnbdkeecibaa
/- THE CELL 'sum', in the pinned program and in every row, IS THE sha256 OF THE DUMP (.gsa) THAT YthehnbdkeecibaaProg.lean LOADS. Nothing in Lean hashes anything: it is a label: what it is worth is what the hold of that sum in a sandbox is worth. -/
noncomputable def Try.pinned : Pinned := { name := "ythehnbdkeecibaa", sum := "4d822364d4ea344cf652fc359ddd91347e78579810080b2ebc545315770f4129", checked := Try.checked }
namespace Rows
def none {H : Type} : Left H := { results := [], args := [] }

/-- 'laws.FnExactConstants': WHATEVER THE INPUT: true; the input reads as it did. -/
def fnExactConstantsSpec : ChangeSpec := { name := "fnExactConstants", fn := fun _ => fun
  | [] => { results := [.lit (.bool true)], args := [] }
  | _ => none }
def fnExactConstantsRow : OpenClaim := { program := "ythehnbdkeecibaa", sum := "4d822364d4ea344cf652fc359ddd91347e78579810080b2ebc545315770f4129", func := "loop.example/videocodec/laws.FnExactConstants", spec := "fnExactConstants", apart := false }
def FnExactConstantsSaid : Prop := fnExactConstantsRow.holds Try.pinned (OpenSpec.ofChange fnExactConstantsSpec)

/-- ITS FALSE NEIGHBOUR: 'it returns false'. Refute it at one input. -/
def fnExactConstantsWrong : ChangeSpec := { name := "fnExactConstants", fn := fun _ => fun
  | [] => { results := [.lit (.bool false)], args := [] }
  | _ => none }
def FnExactConstantsWrongFalsely : Prop := fnExactConstantsRow.holds Try.pinned (OpenSpec.ofChange fnExactConstantsWrong)

/-- 'laws.FnExactSignedIndex': WHATEVER THE INPUT: true; the input reads as it did. -/
def fnExactSignedIndexSpec : ChangeSpec := { name := "fnExactSignedIndex", fn := fun _ => fun
  | [d] => { results := [.lit (.bool true)], args := [d] }
  | _ => none }
def fnExactSignedIndexRow : OpenClaim := { program := "ythehnbdkeecibaa", sum := "4d822364d4ea344cf652fc359ddd91347e78579810080b2ebc545315770f4129", func := "loop.example/videocodec/laws.FnExactSignedIndex", spec := "fnExactSignedIndex", apart := false }
def FnExactSignedIndexSaid : Prop := fnExactSignedIndexRow.holds Try.pinned (OpenSpec.ofChange fnExactSignedIndexSpec)

/-- ITS FALSE NEIGHBOUR: 'it returns false'. Refute it at one input. -/
def fnExactSignedIndexWrong : ChangeSpec := { name := "fnExactSignedIndex", fn := fun _ => fun
  | [d] => { results := [.lit (.bool false)], args := [d] }
  | _ => none }
def FnExactSignedIndexWrongFalsely : Prop := fnExactSignedIndexRow.holds Try.pinned (OpenSpec.ofChange fnExactSignedIndexWrong)

/-- 'laws.FnExactSignedValue': WHATEVER THE INPUT: true; the input reads as it did. -/
def fnExactSignedValueSpec : ChangeSpec := { name := "fnExactSignedValue", fn := fun _ => fun
  | [d] => { results := [.lit (.bool true)], args := [d] }
  | _ => none }
def fnExactSignedValueRow : OpenClaim := { program := "ythehnbdkeecibaa", sum := "4d822364d4ea344cf652fc359ddd91347e78579810080b2ebc545315770f4129", func := "loop.example/videocodec/laws.FnExactSignedValue", spec := "fnExactSignedValue", apart := false }
def FnExactSignedValueSaid : Prop := fnExactSignedValueRow.holds Try.pinned (OpenSpec.ofChange fnExactSignedValueSpec)

/-- ITS FALSE NEIGHBOUR: 'it returns false'. Refute it at one input. -/
def fnExactSignedValueWrong : ChangeSpec := { name := "fnExactSignedValue", fn := fun _ => fun
  | [d] => { results := [.lit (.bool false)], args := [d] }
  | _ => none }
def FnExactSignedValueWrongFalsely : Prop := fnExactSignedValueRow.holds Try.pinned (OpenSpec.ofChange fnExactSignedValueWrong)

/-- 'laws.FnSignedIndex': WHATEVER THE INPUT: true; the input reads as it did. -/
def fnSignedIndexSpec : ChangeSpec := { name := "fnSignedIndex", fn := fun _ => fun
  | [d] => { results := [.lit (.bool true)], args := [d] }
  | _ => none }
def fnSignedIndexRow : OpenClaim := { program := "ythehnbdkeecibaa", sum := "4d822364d4ea344cf652fc359ddd91347e78579810080b2ebc545315770f4129", func := "loop.example/videocodec/laws.FnSignedIndex", spec := "fnSignedIndex", apart := false }
def FnSignedIndexSaid : Prop := fnSignedIndexRow.holds Try.pinned (OpenSpec.ofChange fnSignedIndexSpec)

/-- ITS FALSE NEIGHBOUR: 'it returns false'. Refute it at one input. -/
def fnSignedIndexWrong : ChangeSpec := { name := "fnSignedIndex", fn := fun _ => fun
  | [d] => { results := [.lit (.bool false)], args := [d] }
  | _ => none }
def FnSignedIndexWrongFalsely : Prop := fnSignedIndexRow.holds Try.pinned (OpenSpec.ofChange fnSignedIndexWrong)

/-- 'laws.FnSignedValue': WHATEVER THE INPUT: true; the input reads as it did. -/
def fnSignedValueSpec : ChangeSpec := { name := "fnSignedValue", fn := fun _ => fun
  | [d] => { results := [.lit (.bool true)], args := [d] }
  | _ => none }
def fnSignedValueRow : OpenClaim := { program := "ythehnbdkeecibaa", sum := "4d822364d4ea344cf652fc359ddd91347e78579810080b2ebc545315770f4129", func := "loop.example/videocodec/laws.FnSignedValue", spec := "fnSignedValue", apart := false }
def FnSignedValueSaid : Prop := fnSignedValueRow.holds Try.pinned (OpenSpec.ofChange fnSignedValueSpec)

/-- ITS FALSE NEIGHBOUR: 'it returns false'. Refute it at one input. -/
def fnSignedValueWrong : ChangeSpec := { name := "fnSignedValue", fn := fun _ => fun
  | [d] => { results := [.lit (.bool false)], args := [d] }
  | _ => none }
def FnSignedValueWrongFalsely : Prop := fnSignedValueRow.holds Try.pinned (OpenSpec.ofChange fnSignedValueWrong)

/- THE SECOND FORM. 'bulk': how many values and letters a reading holds, each counted each time it is reached (what is shared counts as often as it is met; a slice's spare places count too). A statement '..UptoSaid' is the law's where the arguments, and the package variables that the reading takes, are together of bulk at most 1048576: NARROWER than '..Said'. Prove '..Said' where nothing that the law and all that it calls make is longer than what came in: it says more and counts as full. Else prove '..UptoSaid'. A law counts once. -/
mutual
def uptoBulk {H : Type} : DataW H → Nat
  | .lit (.string bytes) => bytes.length + 1
  | .lit _ => 1
  | .nil => 1
  | .ptr d => uptoBulk d + 1
  | .slice elems spare => uptoBulkAll elems + uptoBulkAll spare + 1
  | .agg parts => uptoBulkAll parts + 1
  | .iface _ d => uptoBulk d + 1
  | .map entries => uptoBulkEntries entries + 1
  | .held _ => 1
def uptoBulkAll {H : Type} : List (DataW H) → Nat
  | [] => 0
  | d :: r => uptoBulk d + uptoBulkAll r
def uptoBulkEntries {H : Type} : List (Lit × DataW H) → Nat
  | [] => 0
  | x :: r => uptoBulkEntry x + uptoBulkEntries r
def uptoBulkEntry {H : Type} : Lit × DataW H → Nat
  | (.string bytes, d) => bytes.length + uptoBulk d + 1
  | (_, d) => uptoBulk d + 1
 end
def uptoSmall : (H : Type) → List (DataW H) → Bool := fun _ ds => decide (uptoBulkAll ds ≤ 1048576)
def OpenSpec.upto (s : _root_.Go.ChangeSpec) : _root_.Go.OpenSpec := { _root_.Go.OpenSpec.ofChange s with cond := some uptoSmall }

/-- 'laws.FnExactConstants', WHERE WHAT IT READS IS OF BULK AT MOST 1048576: true; the input reads as it did. -/
def fnExactConstantsUptoRow : OpenClaim := { program := "ythehnbdkeecibaa", sum := "4d822364d4ea344cf652fc359ddd91347e78579810080b2ebc545315770f4129", func := "loop.example/videocodec/laws.FnExactConstants", spec := "fnExactConstants", apart := false, narrowed := true }
def FnExactConstantsUptoSaid : Prop := fnExactConstantsUptoRow.holds Try.pinned (OpenSpec.upto fnExactConstantsSpec)

/-- 'laws.FnExactSignedIndex', WHERE WHAT IT READS IS OF BULK AT MOST 1048576: true; the input reads as it did. -/
def fnExactSignedIndexUptoRow : OpenClaim := { program := "ythehnbdkeecibaa", sum := "4d822364d4ea344cf652fc359ddd91347e78579810080b2ebc545315770f4129", func := "loop.example/videocodec/laws.FnExactSignedIndex", spec := "fnExactSignedIndex", apart := false, narrowed := true }
def FnExactSignedIndexUptoSaid : Prop := fnExactSignedIndexUptoRow.holds Try.pinned (OpenSpec.upto fnExactSignedIndexSpec)

/-- 'laws.FnExactSignedValue', WHERE WHAT IT READS IS OF BULK AT MOST 1048576: true; the input reads as it did. -/
def fnExactSignedValueUptoRow : OpenClaim := { program := "ythehnbdkeecibaa", sum := "4d822364d4ea344cf652fc359ddd91347e78579810080b2ebc545315770f4129", func := "loop.example/videocodec/laws.FnExactSignedValue", spec := "fnExactSignedValue", apart := false, narrowed := true }
def FnExactSignedValueUptoSaid : Prop := fnExactSignedValueUptoRow.holds Try.pinned (OpenSpec.upto fnExactSignedValueSpec)

/-- 'laws.FnSignedIndex', WHERE WHAT IT READS IS OF BULK AT MOST 1048576: true; the input reads as it did. -/
def fnSignedIndexUptoRow : OpenClaim := { program := "ythehnbdkeecibaa", sum := "4d822364d4ea344cf652fc359ddd91347e78579810080b2ebc545315770f4129", func := "loop.example/videocodec/laws.FnSignedIndex", spec := "fnSignedIndex", apart := false, narrowed := true }
def FnSignedIndexUptoSaid : Prop := fnSignedIndexUptoRow.holds Try.pinned (OpenSpec.upto fnSignedIndexSpec)

/-- 'laws.FnSignedValue', WHERE WHAT IT READS IS OF BULK AT MOST 1048576: true; the input reads as it did. -/
def fnSignedValueUptoRow : OpenClaim := { program := "ythehnbdkeecibaa", sum := "4d822364d4ea344cf652fc359ddd91347e78579810080b2ebc545315770f4129", func := "loop.example/videocodec/laws.FnSignedValue", spec := "fnSignedValue", apart := false, narrowed := true }
def FnSignedValueUptoSaid : Prop := fnSignedValueUptoRow.holds Try.pinned (OpenSpec.upto fnSignedValueSpec)

end Rows
end Go.Proofs.Ythehnbdkeecibaa
