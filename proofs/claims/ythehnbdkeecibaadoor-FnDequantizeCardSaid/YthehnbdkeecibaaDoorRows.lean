/-
  NARROWER THAN 'FOR EVERY INPUT', by the rows' own cells (each row's printed sentence says how): FnExactQuantStep: laid · FnExactDequantize: laid · FnExactQuantize: laid · FnQuantStep: laid · FnDequantize: laid · FnQuantize: laid.
  DERIVED. THE GIVEN ROWS OF THIS SEAT. 6 by the template 'for every input the law returns true; each argument reads behind the call as it read before'; 0 by the template 'total and deterministic' (their statements: YthehnbdkeecibaaDoorTotals.lean).
  GIVEN WITH THE SEED: the statements are not yours to turn. If you find one false, say at which input.
  Laid BY PROGRAM, IN A SANDBOX (cutbox-rows.mjs): the forced cells as the released guide's own fill.sh prints them over the translation bbcfdac1ff39c0fe… (all of the seat's roots in one cut). By AI agents, Wed Nov 11 2026. No macro, syntax, notation, axiom, sorry.
-/
import Derived.Test.YthehnbdkeecibaaDoorChecked
import GoSem.Claim
import GoSem.ClaimJoined
import GoSem.ClaimMapViews
import Derived.JoinedTies
import Derived.KernelRfl
namespace Go.Proofs.YthehnbdkeecibaaDoor
/- THE CELL 'sum', in the pinned program and in every row, IS THE sha256 OF THE DUMP (.gsa) THAT YthehnbdkeecibaaDoorProg.lean LOADS. Nothing in Lean hashes anything: it is a label: what it is worth is what the hold of that sum in a sandbox is worth. -/
noncomputable def Tryd.pinned : Pinned := { name := "ythehnbdkeecibaadoor", sum := "bbcfdac1ff39c0fe828aa5b2ca19b0792d169f147c4196a213d0e72dc9661dac", checked := Tryd.checked }
namespace Rows
def none {H : Type} : Left H := { results := [], args := [] }

/- WHAT THE LISTED PACKAGE-LEVEL VARIABLES READ AS WHEN THE CALL BEGINS. Each datum BY PROGRAM (the guide's laid-datum.mjs) off the statement by which the dump's own 'gosem.cut.vars' lays the variable. In a bare row this is a premise. The card (YthehnbdkeecibaaDoorCards.lean) ties it to the program's text. -/
def laid_loop_example_videocodec_impl_quantSteps {H : Type} : DataW H := .agg [.lit (.int .i64 1), .lit (.int .i64 2), .lit (.int .i64 4), .lit (.int .i64 8), .lit (.int .i64 12), .lit (.int .i64 16), .lit (.int .i64 24), .lit (.int .i64 32), .lit (.int .i64 48), .lit (.int .i64 64), .lit (.int .i64 96), .lit (.int .i64 128), .lit (.int .i64 192), .lit (.int .i64 256), .lit (.int .i64 384), .lit (.int .i64 512)]

/-- 'laws.FnExactQuantStep': WHATEVER THE INPUT: true; the input reads as it did. -/
def fnExactQuantStepSpec : ChangeSpec := { name := "fnExactQuantStep", vars := ["loop.example/videocodec/impl.quantSteps"], fn := fun _ => fun
  | [d, g1] => { results := [.lit (.bool true)], args := [d], vars := [g1] }
  | _ => none }
def fnExactQuantStepRow : OpenClaim := { program := "ythehnbdkeecibaadoor", sum := "bbcfdac1ff39c0fe828aa5b2ca19b0792d169f147c4196a213d0e72dc9661dac", func := "loop.example/videocodec/laws.FnExactQuantStep", spec := "fnExactQuantStep", named := ["loop.example/videocodec/impl.quantSteps"], apart := false, laid := [("loop.example/videocodec/impl.quantSteps", laid_loop_example_videocodec_impl_quantSteps)] }
def FnExactQuantStepSaid : Prop := fnExactQuantStepRow.holds Tryd.pinned (OpenSpec.ofChange fnExactQuantStepSpec)

/-- ITS FALSE NEIGHBOUR: 'it returns false'. Refute it at one input. -/
def fnExactQuantStepWrong : ChangeSpec := { name := "fnExactQuantStep", vars := ["loop.example/videocodec/impl.quantSteps"], fn := fun _ => fun
  | [d, g1] => { results := [.lit (.bool false)], args := [d], vars := [g1] }
  | _ => none }
def FnExactQuantStepWrongFalsely : Prop := fnExactQuantStepRow.holds Tryd.pinned (OpenSpec.ofChange fnExactQuantStepWrong)

/-- 'laws.FnExactDequantize': WHATEVER THE INPUT: true; the input reads as it did. -/
def fnExactDequantizeSpec : ChangeSpec := { name := "fnExactDequantize", vars := ["loop.example/videocodec/impl.quantSteps"], fn := fun _ => fun
  | [d1, d2, g1] => { results := [.lit (.bool true)], args := [d1, d2], vars := [g1] }
  | _ => none }
def fnExactDequantizeRow : OpenClaim := { program := "ythehnbdkeecibaadoor", sum := "bbcfdac1ff39c0fe828aa5b2ca19b0792d169f147c4196a213d0e72dc9661dac", func := "loop.example/videocodec/laws.FnExactDequantize", spec := "fnExactDequantize", named := ["loop.example/videocodec/impl.quantSteps"], apart := false, laid := [("loop.example/videocodec/impl.quantSteps", laid_loop_example_videocodec_impl_quantSteps)] }
def FnExactDequantizeSaid : Prop := fnExactDequantizeRow.holds Tryd.pinned (OpenSpec.ofChange fnExactDequantizeSpec)

/-- ITS FALSE NEIGHBOUR: 'it returns false'. Refute it at one input. -/
def fnExactDequantizeWrong : ChangeSpec := { name := "fnExactDequantize", vars := ["loop.example/videocodec/impl.quantSteps"], fn := fun _ => fun
  | [d1, d2, g1] => { results := [.lit (.bool false)], args := [d1, d2], vars := [g1] }
  | _ => none }
def FnExactDequantizeWrongFalsely : Prop := fnExactDequantizeRow.holds Tryd.pinned (OpenSpec.ofChange fnExactDequantizeWrong)

/-- 'laws.FnExactQuantize': WHATEVER THE INPUT: true; the input reads as it did. -/
def fnExactQuantizeSpec : ChangeSpec := { name := "fnExactQuantize", vars := ["loop.example/videocodec/impl.quantSteps"], fn := fun _ => fun
  | [d1, d2, g1] => { results := [.lit (.bool true)], args := [d1, d2], vars := [g1] }
  | _ => none }
def fnExactQuantizeRow : OpenClaim := { program := "ythehnbdkeecibaadoor", sum := "bbcfdac1ff39c0fe828aa5b2ca19b0792d169f147c4196a213d0e72dc9661dac", func := "loop.example/videocodec/laws.FnExactQuantize", spec := "fnExactQuantize", named := ["loop.example/videocodec/impl.quantSteps"], apart := false, laid := [("loop.example/videocodec/impl.quantSteps", laid_loop_example_videocodec_impl_quantSteps)] }
def FnExactQuantizeSaid : Prop := fnExactQuantizeRow.holds Tryd.pinned (OpenSpec.ofChange fnExactQuantizeSpec)

/-- ITS FALSE NEIGHBOUR: 'it returns false'. Refute it at one input. -/
def fnExactQuantizeWrong : ChangeSpec := { name := "fnExactQuantize", vars := ["loop.example/videocodec/impl.quantSteps"], fn := fun _ => fun
  | [d1, d2, g1] => { results := [.lit (.bool false)], args := [d1, d2], vars := [g1] }
  | _ => none }
def FnExactQuantizeWrongFalsely : Prop := fnExactQuantizeRow.holds Tryd.pinned (OpenSpec.ofChange fnExactQuantizeWrong)

/-- 'laws.FnQuantStep': WHATEVER THE INPUT: true; the input reads as it did. -/
def fnQuantStepSpec : ChangeSpec := { name := "fnQuantStep", vars := ["loop.example/videocodec/impl.quantSteps"], fn := fun _ => fun
  | [d, g1] => { results := [.lit (.bool true)], args := [d], vars := [g1] }
  | _ => none }
def fnQuantStepRow : OpenClaim := { program := "ythehnbdkeecibaadoor", sum := "bbcfdac1ff39c0fe828aa5b2ca19b0792d169f147c4196a213d0e72dc9661dac", func := "loop.example/videocodec/laws.FnQuantStep", spec := "fnQuantStep", named := ["loop.example/videocodec/impl.quantSteps"], apart := false, laid := [("loop.example/videocodec/impl.quantSteps", laid_loop_example_videocodec_impl_quantSteps)] }
def FnQuantStepSaid : Prop := fnQuantStepRow.holds Tryd.pinned (OpenSpec.ofChange fnQuantStepSpec)

/-- ITS FALSE NEIGHBOUR: 'it returns false'. Refute it at one input. -/
def fnQuantStepWrong : ChangeSpec := { name := "fnQuantStep", vars := ["loop.example/videocodec/impl.quantSteps"], fn := fun _ => fun
  | [d, g1] => { results := [.lit (.bool false)], args := [d], vars := [g1] }
  | _ => none }
def FnQuantStepWrongFalsely : Prop := fnQuantStepRow.holds Tryd.pinned (OpenSpec.ofChange fnQuantStepWrong)

/-- 'laws.FnDequantize': WHATEVER THE INPUT: true; the input reads as it did. -/
def fnDequantizeSpec : ChangeSpec := { name := "fnDequantize", vars := ["loop.example/videocodec/impl.quantSteps"], fn := fun _ => fun
  | [d, g1] => { results := [.lit (.bool true)], args := [d], vars := [g1] }
  | _ => none }
def fnDequantizeRow : OpenClaim := { program := "ythehnbdkeecibaadoor", sum := "bbcfdac1ff39c0fe828aa5b2ca19b0792d169f147c4196a213d0e72dc9661dac", func := "loop.example/videocodec/laws.FnDequantize", spec := "fnDequantize", named := ["loop.example/videocodec/impl.quantSteps"], apart := false, laid := [("loop.example/videocodec/impl.quantSteps", laid_loop_example_videocodec_impl_quantSteps)] }
def FnDequantizeSaid : Prop := fnDequantizeRow.holds Tryd.pinned (OpenSpec.ofChange fnDequantizeSpec)

/-- ITS FALSE NEIGHBOUR: 'it returns false'. Refute it at one input. -/
def fnDequantizeWrong : ChangeSpec := { name := "fnDequantize", vars := ["loop.example/videocodec/impl.quantSteps"], fn := fun _ => fun
  | [d, g1] => { results := [.lit (.bool false)], args := [d], vars := [g1] }
  | _ => none }
def FnDequantizeWrongFalsely : Prop := fnDequantizeRow.holds Tryd.pinned (OpenSpec.ofChange fnDequantizeWrong)

/-- 'laws.FnQuantize': WHATEVER THE INPUT: true; the input reads as it did. -/
def fnQuantizeSpec : ChangeSpec := { name := "fnQuantize", vars := ["loop.example/videocodec/impl.quantSteps"], fn := fun _ => fun
  | [d, g1] => { results := [.lit (.bool true)], args := [d], vars := [g1] }
  | _ => none }
def fnQuantizeRow : OpenClaim := { program := "ythehnbdkeecibaadoor", sum := "bbcfdac1ff39c0fe828aa5b2ca19b0792d169f147c4196a213d0e72dc9661dac", func := "loop.example/videocodec/laws.FnQuantize", spec := "fnQuantize", named := ["loop.example/videocodec/impl.quantSteps"], apart := false, laid := [("loop.example/videocodec/impl.quantSteps", laid_loop_example_videocodec_impl_quantSteps)] }
def FnQuantizeSaid : Prop := fnQuantizeRow.holds Tryd.pinned (OpenSpec.ofChange fnQuantizeSpec)

/-- ITS FALSE NEIGHBOUR: 'it returns false'. Refute it at one input. -/
def fnQuantizeWrong : ChangeSpec := { name := "fnQuantize", vars := ["loop.example/videocodec/impl.quantSteps"], fn := fun _ => fun
  | [d, g1] => { results := [.lit (.bool false)], args := [d], vars := [g1] }
  | _ => none }
def FnQuantizeWrongFalsely : Prop := fnQuantizeRow.holds Tryd.pinned (OpenSpec.ofChange fnQuantizeWrong)

/- THE SECOND FORM. 'bulk': how many values and letters a reading holds, each counted each time it is reached (what is shared counts as often as it is met; a slice's spare places count too). A statement '..UptoSaid' is the law's where the arguments, and the package variables that the reading takes, are together of bulk at most 1048576: NARROWER than '..Said'. Prove '..Said' where nothing that the law and all that it calls make is longer than what came in: it says more and counts as full. Else prove '..UptoSaid'. A law counts once. -/
mutual
def uptoBulk {H : Type} : DataW H → Nat
  | .lit (.string bytes) => bytes.length + 1
  | .lit _ => 1
  | .nil => 1
  | .ptr d => uptoBulk d + 1
  | .slice elems spare => uptoBulkAll elems + uptoBulkAll spare + 1
  | .agg parts => uptoBulkAll parts + 1
  | .iface _ d => uptoBulk d + 1
  | .map entries => uptoBulkEntries entries + 1
  | .held _ => 1
def uptoBulkAll {H : Type} : List (DataW H) → Nat
  | [] => 0
  | d :: r => uptoBulk d + uptoBulkAll r
def uptoBulkEntries {H : Type} : List (Lit × DataW H) → Nat
  | [] => 0
  | x :: r => uptoBulkEntry x + uptoBulkEntries r
def uptoBulkEntry {H : Type} : Lit × DataW H → Nat
  | (.string bytes, d) => bytes.length + uptoBulk d + 1
  | (_, d) => uptoBulk d + 1
 end
def uptoSmall : (H : Type) → List (DataW H) → Bool := fun _ ds => decide (uptoBulkAll ds ≤ 1048576)
def OpenSpec.upto (s : _root_.Go.ChangeSpec) : _root_.Go.OpenSpec := { _root_.Go.OpenSpec.ofChange s with cond := some uptoSmall }

/-- 'laws.FnExactQuantStep', WHERE WHAT IT READS IS OF BULK AT MOST 1048576: true; the input reads as it did. -/
def fnExactQuantStepUptoRow : OpenClaim := { program := "ythehnbdkeecibaadoor", sum := "bbcfdac1ff39c0fe828aa5b2ca19b0792d169f147c4196a213d0e72dc9661dac", func := "loop.example/videocodec/laws.FnExactQuantStep", spec := "fnExactQuantStep", named := ["loop.example/videocodec/impl.quantSteps"], apart := false, laid := [("loop.example/videocodec/impl.quantSteps", laid_loop_example_videocodec_impl_quantSteps)], narrowed := true }
def FnExactQuantStepUptoSaid : Prop := fnExactQuantStepUptoRow.holds Tryd.pinned (OpenSpec.upto fnExactQuantStepSpec)

/-- 'laws.FnExactDequantize', WHERE WHAT IT READS IS OF BULK AT MOST 1048576: true; the input reads as it did. -/
def fnExactDequantizeUptoRow : OpenClaim := { program := "ythehnbdkeecibaadoor", sum := "bbcfdac1ff39c0fe828aa5b2ca19b0792d169f147c4196a213d0e72dc9661dac", func := "loop.example/videocodec/laws.FnExactDequantize", spec := "fnExactDequantize", named := ["loop.example/videocodec/impl.quantSteps"], apart := false, laid := [("loop.example/videocodec/impl.quantSteps", laid_loop_example_videocodec_impl_quantSteps)], narrowed := true }
def FnExactDequantizeUptoSaid : Prop := fnExactDequantizeUptoRow.holds Tryd.pinned (OpenSpec.upto fnExactDequantizeSpec)

/-- 'laws.FnExactQuantize', WHERE WHAT IT READS IS OF BULK AT MOST 1048576: true; the input reads as it did. -/
def fnExactQuantizeUptoRow : OpenClaim := { program := "ythehnbdkeecibaadoor", sum := "bbcfdac1ff39c0fe828aa5b2ca19b0792d169f147c4196a213d0e72dc9661dac", func := "loop.example/videocodec/laws.FnExactQuantize", spec := "fnExactQuantize", named := ["loop.example/videocodec/impl.quantSteps"], apart := false, laid := [("loop.example/videocodec/impl.quantSteps", laid_loop_example_videocodec_impl_quantSteps)], narrowed := true }
def FnExactQuantizeUptoSaid : Prop := fnExactQuantizeUptoRow.holds Tryd.pinned (OpenSpec.upto fnExactQuantizeSpec)

/-- 'laws.FnQuantStep', WHERE WHAT IT READS IS OF BULK AT MOST 1048576: true; the input reads as it did. -/
def fnQuantStepUptoRow : OpenClaim := { program := "ythehnbdkeecibaadoor", sum := "bbcfdac1ff39c0fe828aa5b2ca19b0792d169f147c4196a213d0e72dc9661dac", func := "loop.example/videocodec/laws.FnQuantStep", spec := "fnQuantStep", named := ["loop.example/videocodec/impl.quantSteps"], apart := false, laid := [("loop.example/videocodec/impl.quantSteps", laid_loop_example_videocodec_impl_quantSteps)], narrowed := true }
def FnQuantStepUptoSaid : Prop := fnQuantStepUptoRow.holds Tryd.pinned (OpenSpec.upto fnQuantStepSpec)

/-- 'laws.FnDequantize', WHERE WHAT IT READS IS OF BULK AT MOST 1048576: true; the input reads as it did. -/
def fnDequantizeUptoRow : OpenClaim := { program := "ythehnbdkeecibaadoor", sum := "bbcfdac1ff39c0fe828aa5b2ca19b0792d169f147c4196a213d0e72dc9661dac", func := "loop.example/videocodec/laws.FnDequantize", spec := "fnDequantize", named := ["loop.example/videocodec/impl.quantSteps"], apart := false, laid := [("loop.example/videocodec/impl.quantSteps", laid_loop_example_videocodec_impl_quantSteps)], narrowed := true }
def FnDequantizeUptoSaid : Prop := fnDequantizeUptoRow.holds Tryd.pinned (OpenSpec.upto fnDequantizeSpec)

/-- 'laws.FnQuantize', WHERE WHAT IT READS IS OF BULK AT MOST 1048576: true; the input reads as it did. -/
def fnQuantizeUptoRow : OpenClaim := { program := "ythehnbdkeecibaadoor", sum := "bbcfdac1ff39c0fe828aa5b2ca19b0792d169f147c4196a213d0e72dc9661dac", func := "loop.example/videocodec/laws.FnQuantize", spec := "fnQuantize", named := ["loop.example/videocodec/impl.quantSteps"], apart := false, laid := [("loop.example/videocodec/impl.quantSteps", laid_loop_example_videocodec_impl_quantSteps)], narrowed := true }
def FnQuantizeUptoSaid : Prop := fnQuantizeUptoRow.holds Tryd.pinned (OpenSpec.upto fnQuantizeSpec)

end Rows
end Go.Proofs.YthehnbdkeecibaaDoor
