/-
  NARROWER THAN 'FOR EVERY INPUT', by the rows' own cells (each row's printed sentence says how): FnCodeBlock: laid · FnDecodeBlock: laid · FnTransposeBlock: laid.
  DERIVED. THE GIVEN ROWS OF THIS SEAT. 3 by the template 'for every input the law returns true; each argument reads behind the call as it read before'; 0 by the template 'total and deterministic' (their statements: YtammofbncdmccaaDoorTotals.lean).
  GIVEN WITH THE SEED: the statements are not yours to turn. If you find one false, say at which input.
  Laid BY PROGRAM, IN A SANDBOX (cutbox-rows.mjs): the forced cells as the released guide's own fill.sh prints them over the translation a48f0226c31009c1… (all of the seat's roots in one cut). By AI agents, Wed Nov 11 2026. No macro, syntax, notation, axiom, sorry.
-/
import Derived.Test.YtammofbncdmccaaDoorChecked
import GoSem.Claim
import GoSem.ClaimJoined
import GoSem.ClaimMapViews
import Derived.JoinedTies
import Derived.KernelRfl
namespace Go.Proofs.YtammofbncdmccaaDoor
/- THE CELL 'sum', in the pinned program and in every row, IS THE sha256 OF THE DUMP (.gsa) THAT YtammofbncdmccaaDoorProg.lean LOADS. Nothing in Lean hashes anything: it is a label: what it is worth is what the hold of that sum in a sandbox is worth. -/
noncomputable def Tryd.pinned : Pinned := { name := "ytammofbncdmccaadoor", sum := "a48f0226c31009c1d21489c6d3a7ff2b8503c90e7ba55e005458a392190ab2a4", checked := Tryd.checked }
namespace Rows
def none {H : Type} : Left H := { results := [], args := [] }

/- WHAT THE LISTED PACKAGE-LEVEL VARIABLES READ AS WHEN THE CALL BEGINS. Each datum BY PROGRAM (the guide's laid-datum.mjs) off the statement by which the dump's own 'gosem.cut.vars' lays the variable. In a bare row this is a premise. The card (YtammofbncdmccaaDoorCards.lean) ties it to the program's text. -/
def laid_loop_example_videocodec_impl_quantSteps {H : Type} : DataW H := .agg [.lit (.int .i64 1), .lit (.int .i64 2), .lit (.int .i64 4), .lit (.int .i64 8), .lit (.int .i64 12), .lit (.int .i64 16), .lit (.int .i64 24), .lit (.int .i64 32), .lit (.int .i64 48), .lit (.int .i64 64), .lit (.int .i64 96), .lit (.int .i64 128), .lit (.int .i64 192), .lit (.int .i64 256), .lit (.int .i64 384), .lit (.int .i64 512)]

/-- 'laws.FnCodeBlock': WHATEVER THE INPUT: true; the input reads as it did. -/
def fnCodeBlockSpec : ChangeSpec := { name := "fnCodeBlock", vars := ["loop.example/videocodec/impl.quantSteps"], fn := fun _ => fun
  | [d, g1] => { results := [.lit (.bool true)], args := [d], vars := [g1] }
  | _ => none }
def fnCodeBlockRow : OpenClaim := { program := "ytammofbncdmccaadoor", sum := "a48f0226c31009c1d21489c6d3a7ff2b8503c90e7ba55e005458a392190ab2a4", func := "loop.example/videocodec/laws.FnCodeBlock", spec := "fnCodeBlock", named := ["loop.example/videocodec/impl.quantSteps"], apart := false, laid := [("loop.example/videocodec/impl.quantSteps", laid_loop_example_videocodec_impl_quantSteps)] }
def FnCodeBlockSaid : Prop := fnCodeBlockRow.holds Tryd.pinned (OpenSpec.ofChange fnCodeBlockSpec)

/-- ITS FALSE NEIGHBOUR: 'it returns false'. Refute it at one input. -/
def fnCodeBlockWrong : ChangeSpec := { name := "fnCodeBlock", vars := ["loop.example/videocodec/impl.quantSteps"], fn := fun _ => fun
  | [d, g1] => { results := [.lit (.bool false)], args := [d], vars := [g1] }
  | _ => none }
def FnCodeBlockWrongFalsely : Prop := fnCodeBlockRow.holds Tryd.pinned (OpenSpec.ofChange fnCodeBlockWrong)

/-- 'laws.FnDecodeBlock': WHATEVER THE INPUT: true; the input reads as it did. -/
def fnDecodeBlockSpec : ChangeSpec := { name := "fnDecodeBlock", vars := ["loop.example/videocodec/impl.quantSteps"], fn := fun _ => fun
  | [d, g1] => { results := [.lit (.bool true)], args := [d], vars := [g1] }
  | _ => none }
def fnDecodeBlockRow : OpenClaim := { program := "ytammofbncdmccaadoor", sum := "a48f0226c31009c1d21489c6d3a7ff2b8503c90e7ba55e005458a392190ab2a4", func := "loop.example/videocodec/laws.FnDecodeBlock", spec := "fnDecodeBlock", named := ["loop.example/videocodec/impl.quantSteps"], apart := false, laid := [("loop.example/videocodec/impl.quantSteps", laid_loop_example_videocodec_impl_quantSteps)] }
def FnDecodeBlockSaid : Prop := fnDecodeBlockRow.holds Tryd.pinned (OpenSpec.ofChange fnDecodeBlockSpec)

/-- ITS FALSE NEIGHBOUR: 'it returns false'. Refute it at one input. -/
def fnDecodeBlockWrong : ChangeSpec := { name := "fnDecodeBlock", vars := ["loop.example/videocodec/impl.quantSteps"], fn := fun _ => fun
  | [d, g1] => { results := [.lit (.bool false)], args := [d], vars := [g1] }
  | _ => none }
def FnDecodeBlockWrongFalsely : Prop := fnDecodeBlockRow.holds Tryd.pinned (OpenSpec.ofChange fnDecodeBlockWrong)

/-- 'laws.FnTransposeBlock': WHATEVER THE INPUT: true; the input reads as it did. -/
def fnTransposeBlockSpec : ChangeSpec := { name := "fnTransposeBlock", vars := ["loop.example/videocodec/impl.quantSteps"], fn := fun _ => fun
  | [d, g1] => { results := [.lit (.bool true)], args := [d], vars := [g1] }
  | _ => none }
def fnTransposeBlockRow : OpenClaim := { program := "ytammofbncdmccaadoor", sum := "a48f0226c31009c1d21489c6d3a7ff2b8503c90e7ba55e005458a392190ab2a4", func := "loop.example/videocodec/laws.FnTransposeBlock", spec := "fnTransposeBlock", named := ["loop.example/videocodec/impl.quantSteps"], apart := false, laid := [("loop.example/videocodec/impl.quantSteps", laid_loop_example_videocodec_impl_quantSteps)] }
def FnTransposeBlockSaid : Prop := fnTransposeBlockRow.holds Tryd.pinned (OpenSpec.ofChange fnTransposeBlockSpec)

/-- ITS FALSE NEIGHBOUR: 'it returns false'. Refute it at one input. -/
def fnTransposeBlockWrong : ChangeSpec := { name := "fnTransposeBlock", vars := ["loop.example/videocodec/impl.quantSteps"], fn := fun _ => fun
  | [d, g1] => { results := [.lit (.bool false)], args := [d], vars := [g1] }
  | _ => none }
def FnTransposeBlockWrongFalsely : Prop := fnTransposeBlockRow.holds Tryd.pinned (OpenSpec.ofChange fnTransposeBlockWrong)

/- THE SECOND FORM. 'bulk': how many values and letters a reading holds, each counted each time it is reached (what is shared counts as often as it is met; a slice's spare places count too). A statement '..UptoSaid' is the law's where the arguments, and the package variables that the reading takes, are together of bulk at most 1048576: NARROWER than '..Said'. Prove '..Said' where nothing that the law and all that it calls make is longer than what came in: it says more and counts as full. Else prove '..UptoSaid'. A law counts once. -/
mutual
def uptoBulk {H : Type} : DataW H → Nat
  | .lit (.string bytes) => bytes.length + 1
  | .lit _ => 1
  | .nil => 1
  | .ptr d => uptoBulk d + 1
  | .slice elems spare => uptoBulkAll elems + uptoBulkAll spare + 1
  | .agg parts => uptoBulkAll parts + 1
  | .iface _ d => uptoBulk d + 1
  | .map entries => uptoBulkEntries entries + 1
  | .held _ => 1
def uptoBulkAll {H : Type} : List (DataW H) → Nat
  | [] => 0
  | d :: r => uptoBulk d + uptoBulkAll r
def uptoBulkEntries {H : Type} : List (Lit × DataW H) → Nat
  | [] => 0
  | x :: r => uptoBulkEntry x + uptoBulkEntries r
def uptoBulkEntry {H : Type} : Lit × DataW H → Nat
  | (.string bytes, d) => bytes.length + uptoBulk d + 1
  | (_, d) => uptoBulk d + 1
 end
def uptoSmall : (H : Type) → List (DataW H) → Bool := fun _ ds => decide (uptoBulkAll ds ≤ 1048576)
def OpenSpec.upto (s : _root_.Go.ChangeSpec) : _root_.Go.OpenSpec := { _root_.Go.OpenSpec.ofChange s with cond := some uptoSmall }

/-- 'laws.FnCodeBlock', WHERE WHAT IT READS IS OF BULK AT MOST 1048576: true; the input reads as it did. -/
def fnCodeBlockUptoRow : OpenClaim := { program := "ytammofbncdmccaadoor", sum := "a48f0226c31009c1d21489c6d3a7ff2b8503c90e7ba55e005458a392190ab2a4", func := "loop.example/videocodec/laws.FnCodeBlock", spec := "fnCodeBlock", named := ["loop.example/videocodec/impl.quantSteps"], apart := false, laid := [("loop.example/videocodec/impl.quantSteps", laid_loop_example_videocodec_impl_quantSteps)], narrowed := true }
def FnCodeBlockUptoSaid : Prop := fnCodeBlockUptoRow.holds Tryd.pinned (OpenSpec.upto fnCodeBlockSpec)

/-- 'laws.FnDecodeBlock', WHERE WHAT IT READS IS OF BULK AT MOST 1048576: true; the input reads as it did. -/
def fnDecodeBlockUptoRow : OpenClaim := { program := "ytammofbncdmccaadoor", sum := "a48f0226c31009c1d21489c6d3a7ff2b8503c90e7ba55e005458a392190ab2a4", func := "loop.example/videocodec/laws.FnDecodeBlock", spec := "fnDecodeBlock", named := ["loop.example/videocodec/impl.quantSteps"], apart := false, laid := [("loop.example/videocodec/impl.quantSteps", laid_loop_example_videocodec_impl_quantSteps)], narrowed := true }
def FnDecodeBlockUptoSaid : Prop := fnDecodeBlockUptoRow.holds Tryd.pinned (OpenSpec.upto fnDecodeBlockSpec)

/-- 'laws.FnTransposeBlock', WHERE WHAT IT READS IS OF BULK AT MOST 1048576: true; the input reads as it did. -/
def fnTransposeBlockUptoRow : OpenClaim := { program := "ytammofbncdmccaadoor", sum := "a48f0226c31009c1d21489c6d3a7ff2b8503c90e7ba55e005458a392190ab2a4", func := "loop.example/videocodec/laws.FnTransposeBlock", spec := "fnTransposeBlock", named := ["loop.example/videocodec/impl.quantSteps"], apart := false, laid := [("loop.example/videocodec/impl.quantSteps", laid_loop_example_videocodec_impl_quantSteps)], narrowed := true }
def FnTransposeBlockUptoSaid : Prop := fnTransposeBlockUptoRow.holds Tryd.pinned (OpenSpec.upto fnTransposeBlockSpec)

end Rows
end Go.Proofs.YtammofbncdmccaaDoor
