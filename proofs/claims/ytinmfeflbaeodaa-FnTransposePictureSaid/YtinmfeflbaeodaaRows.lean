/-
  No cell of these rows narrows 'for every input' (looked for: loops, veiled, ifaces, maps, wideKeys, modest, calm, conditions, laid).
  DERIVED. THE GIVEN ROWS OF THIS SEAT. 8 by the template 'for every input the law returns true; each argument reads behind the call as it read before'; 0 by the template 'total and deterministic' (their statements: YtinmfeflbaeodaaTotals.lean).
  GIVEN WITH THE SEED: the statements are not yours to turn. If you find one false, say at which input.
  Laid BY PROGRAM, IN A SANDBOX (cutbox-rows.mjs): the forced cells as the released guide's own fill.sh prints them over the translation 225ffc1ca6c0df05… (all of the seat's roots in one cut). By AI agents, Wed Nov 11 2026. No macro, syntax, notation, axiom, sorry.
-/
import Derived.Test.YtinmfeflbaeodaaChecked
import GoSem.Claim
import GoSem.ClaimJoined
import GoSem.ClaimMapViews
import Derived.JoinedTies
import Derived.KernelRfl
namespace Go.Proofs.Ytinmfeflbaeodaa
/- THE CELL 'sum', in the pinned program and in every row, IS THE sha256 OF THE DUMP (.gsa) THAT YtinmfeflbaeodaaProg.lean LOADS. Nothing in Lean hashes anything: it is a label: what it is worth is what the hold of that sum in a sandbox is worth. -/
noncomputable def Try.pinned : Pinned := { name := "ytinmfeflbaeodaa", sum := "225ffc1ca6c0df058a097645877f95586b92806e33ce50453846cc0eea5f59e4", checked := Try.checked }
namespace Rows
def none {H : Type} : Left H := { results := [], args := [] }

/-- 'laws.FnTransposePicture': WHATEVER THE INPUT: true; the input reads as it did. -/
def fnTransposePictureSpec : ChangeSpec := { name := "fnTransposePicture", fn := fun _ => fun
  | [d] => { results := [.lit (.bool true)], args := [d] }
  | _ => none }
def fnTransposePictureRow : OpenClaim := { program := "ytinmfeflbaeodaa", sum := "225ffc1ca6c0df058a097645877f95586b92806e33ce50453846cc0eea5f59e4", func := "loop.example/videocodec/laws.FnTransposePicture", spec := "fnTransposePicture", apart := false }
def FnTransposePictureSaid : Prop := fnTransposePictureRow.holds Try.pinned (OpenSpec.ofChange fnTransposePictureSpec)

/-- ITS FALSE NEIGHBOUR: 'it returns false'. Refute it at one input. -/
def fnTransposePictureWrong : ChangeSpec := { name := "fnTransposePicture", fn := fun _ => fun
  | [d] => { results := [.lit (.bool false)], args := [d] }
  | _ => none }
def FnTransposePictureWrongFalsely : Prop := fnTransposePictureRow.holds Try.pinned (OpenSpec.ofChange fnTransposePictureWrong)

/-- 'laws.FnNewPicture': WHATEVER THE INPUT: true; the input reads as it did. -/
def fnNewPictureSpec : ChangeSpec := { name := "fnNewPicture", fn := fun _ => fun
  | [d] => { results := [.lit (.bool true)], args := [d] }
  | _ => none }
def fnNewPictureRow : OpenClaim := { program := "ytinmfeflbaeodaa", sum := "225ffc1ca6c0df058a097645877f95586b92806e33ce50453846cc0eea5f59e4", func := "loop.example/videocodec/laws.FnNewPicture", spec := "fnNewPicture", apart := false }
def FnNewPictureSaid : Prop := fnNewPictureRow.holds Try.pinned (OpenSpec.ofChange fnNewPictureSpec)

/-- ITS FALSE NEIGHBOUR: 'it returns false'. Refute it at one input. -/
def fnNewPictureWrong : ChangeSpec := { name := "fnNewPicture", fn := fun _ => fun
  | [d] => { results := [.lit (.bool false)], args := [d] }
  | _ => none }
def FnNewPictureWrongFalsely : Prop := fnNewPictureRow.holds Try.pinned (OpenSpec.ofChange fnNewPictureWrong)

/-- 'laws.FnPictureValid': WHATEVER THE INPUT: true; the input reads as it did. -/
def fnPictureValidSpec : ChangeSpec := { name := "fnPictureValid", fn := fun _ => fun
  | [d] => { results := [.lit (.bool true)], args := [d] }
  | _ => none }
def fnPictureValidRow : OpenClaim := { program := "ytinmfeflbaeodaa", sum := "225ffc1ca6c0df058a097645877f95586b92806e33ce50453846cc0eea5f59e4", func := "loop.example/videocodec/laws.FnPictureValid", spec := "fnPictureValid", apart := false }
def FnPictureValidSaid : Prop := fnPictureValidRow.holds Try.pinned (OpenSpec.ofChange fnPictureValidSpec)

/-- ITS FALSE NEIGHBOUR: 'it returns false'. Refute it at one input. -/
def fnPictureValidWrong : ChangeSpec := { name := "fnPictureValid", fn := fun _ => fun
  | [d] => { results := [.lit (.bool false)], args := [d] }
  | _ => none }
def FnPictureValidWrongFalsely : Prop := fnPictureValidRow.holds Try.pinned (OpenSpec.ofChange fnPictureValidWrong)

/-- 'laws.FnSampleAt': WHATEVER THE INPUT: true; the input reads as it did. -/
def fnSampleAtSpec : ChangeSpec := { name := "fnSampleAt", fn := fun _ => fun
  | [d] => { results := [.lit (.bool true)], args := [d] }
  | _ => none }
def fnSampleAtRow : OpenClaim := { program := "ytinmfeflbaeodaa", sum := "225ffc1ca6c0df058a097645877f95586b92806e33ce50453846cc0eea5f59e4", func := "loop.example/videocodec/laws.FnSampleAt", spec := "fnSampleAt", apart := false }
def FnSampleAtSaid : Prop := fnSampleAtRow.holds Try.pinned (OpenSpec.ofChange fnSampleAtSpec)

/-- ITS FALSE NEIGHBOUR: 'it returns false'. Refute it at one input. -/
def fnSampleAtWrong : ChangeSpec := { name := "fnSampleAt", fn := fun _ => fun
  | [d] => { results := [.lit (.bool false)], args := [d] }
  | _ => none }
def FnSampleAtWrongFalsely : Prop := fnSampleAtRow.holds Try.pinned (OpenSpec.ofChange fnSampleAtWrong)

/-- 'laws.FnTranspose': WHATEVER THE INPUT: true; the input reads as it did. -/
def fnTransposeSpec : ChangeSpec := { name := "fnTranspose", fn := fun _ => fun
  | [d] => { results := [.lit (.bool true)], args := [d] }
  | _ => none }
def fnTransposeRow : OpenClaim := { program := "ytinmfeflbaeodaa", sum := "225ffc1ca6c0df058a097645877f95586b92806e33ce50453846cc0eea5f59e4", func := "loop.example/videocodec/laws.FnTranspose", spec := "fnTranspose", apart := false }
def FnTransposeSaid : Prop := fnTransposeRow.holds Try.pinned (OpenSpec.ofChange fnTransposeSpec)

/-- ITS FALSE NEIGHBOUR: 'it returns false'. Refute it at one input. -/
def fnTransposeWrong : ChangeSpec := { name := "fnTranspose", fn := fun _ => fun
  | [d] => { results := [.lit (.bool false)], args := [d] }
  | _ => none }
def FnTransposeWrongFalsely : Prop := fnTransposeRow.holds Try.pinned (OpenSpec.ofChange fnTransposeWrong)

/-- 'laws.FnSquaredDifference': WHATEVER THE INPUT: true; the input reads as it did. -/
def fnSquaredDifferenceSpec : ChangeSpec := { name := "fnSquaredDifference", fn := fun _ => fun
  | [d] => { results := [.lit (.bool true)], args := [d] }
  | _ => none }
def fnSquaredDifferenceRow : OpenClaim := { program := "ytinmfeflbaeodaa", sum := "225ffc1ca6c0df058a097645877f95586b92806e33ce50453846cc0eea5f59e4", func := "loop.example/videocodec/laws.FnSquaredDifference", spec := "fnSquaredDifference", apart := false }
def FnSquaredDifferenceSaid : Prop := fnSquaredDifferenceRow.holds Try.pinned (OpenSpec.ofChange fnSquaredDifferenceSpec)

/-- ITS FALSE NEIGHBOUR: 'it returns false'. Refute it at one input. -/
def fnSquaredDifferenceWrong : ChangeSpec := { name := "fnSquaredDifference", fn := fun _ => fun
  | [d] => { results := [.lit (.bool false)], args := [d] }
  | _ => none }
def FnSquaredDifferenceWrongFalsely : Prop := fnSquaredDifferenceRow.holds Try.pinned (OpenSpec.ofChange fnSquaredDifferenceWrong)

/-- 'laws.FnAbsoluteDifference': WHATEVER THE INPUT: true; the input reads as it did. -/
def fnAbsoluteDifferenceSpec : ChangeSpec := { name := "fnAbsoluteDifference", fn := fun _ => fun
  | [d] => { results := [.lit (.bool true)], args := [d] }
  | _ => none }
def fnAbsoluteDifferenceRow : OpenClaim := { program := "ytinmfeflbaeodaa", sum := "225ffc1ca6c0df058a097645877f95586b92806e33ce50453846cc0eea5f59e4", func := "loop.example/videocodec/laws.FnAbsoluteDifference", spec := "fnAbsoluteDifference", apart := false }
def FnAbsoluteDifferenceSaid : Prop := fnAbsoluteDifferenceRow.holds Try.pinned (OpenSpec.ofChange fnAbsoluteDifferenceSpec)

/-- ITS FALSE NEIGHBOUR: 'it returns false'. Refute it at one input. -/
def fnAbsoluteDifferenceWrong : ChangeSpec := { name := "fnAbsoluteDifference", fn := fun _ => fun
  | [d] => { results := [.lit (.bool false)], args := [d] }
  | _ => none }
def FnAbsoluteDifferenceWrongFalsely : Prop := fnAbsoluteDifferenceRow.holds Try.pinned (OpenSpec.ofChange fnAbsoluteDifferenceWrong)

/-- 'laws.FnEdgesValid': WHATEVER THE INPUT: true; the input reads as it did. -/
def fnEdgesValidSpec : ChangeSpec := { name := "fnEdgesValid", fn := fun _ => fun
  | [d] => { results := [.lit (.bool true)], args := [d] }
  | _ => none }
def fnEdgesValidRow : OpenClaim := { program := "ytinmfeflbaeodaa", sum := "225ffc1ca6c0df058a097645877f95586b92806e33ce50453846cc0eea5f59e4", func := "loop.example/videocodec/laws.FnEdgesValid", spec := "fnEdgesValid", apart := false }
def FnEdgesValidSaid : Prop := fnEdgesValidRow.holds Try.pinned (OpenSpec.ofChange fnEdgesValidSpec)

/-- ITS FALSE NEIGHBOUR: 'it returns false'. Refute it at one input. -/
def fnEdgesValidWrong : ChangeSpec := { name := "fnEdgesValid", fn := fun _ => fun
  | [d] => { results := [.lit (.bool false)], args := [d] }
  | _ => none }
def FnEdgesValidWrongFalsely : Prop := fnEdgesValidRow.holds Try.pinned (OpenSpec.ofChange fnEdgesValidWrong)

/- THE SECOND FORM. 'bulk': how many values and letters a reading holds, each counted each time it is reached (what is shared counts as often as it is met; a slice's spare places count too). A statement '..UptoSaid' is the law's where the arguments, and the package variables that the reading takes, are together of bulk at most 1048576: NARROWER than '..Said'. Prove '..Said' where nothing that the law and all that it calls make is longer than what came in: it says more and counts as full. Else prove '..UptoSaid'. A law counts once. -/
mutual
def uptoBulk {H : Type} : DataW H → Nat
  | .lit (.string bytes) => bytes.length + 1
  | .lit _ => 1
  | .nil => 1
  | .ptr d => uptoBulk d + 1
  | .slice elems spare => uptoBulkAll elems + uptoBulkAll spare + 1
  | .agg parts => uptoBulkAll parts + 1
  | .iface _ d => uptoBulk d + 1
  | .map entries => uptoBulkEntries entries + 1
  | .held _ => 1
def uptoBulkAll {H : Type} : List (DataW H) → Nat
  | [] => 0
  | d :: r => uptoBulk d + uptoBulkAll r
def uptoBulkEntries {H : Type} : List (Lit × DataW H) → Nat
  | [] => 0
  | x :: r => uptoBulkEntry x + uptoBulkEntries r
def uptoBulkEntry {H : Type} : Lit × DataW H → Nat
  | (.string bytes, d) => bytes.length + uptoBulk d + 1
  | (_, d) => uptoBulk d + 1
 end
def uptoSmall : (H : Type) → List (DataW H) → Bool := fun _ ds => decide (uptoBulkAll ds ≤ 1048576)
def OpenSpec.upto (s : _root_.Go.ChangeSpec) : _root_.Go.OpenSpec := { _root_.Go.OpenSpec.ofChange s with cond := some uptoSmall }

/-- 'laws.FnTransposePicture', WHERE WHAT IT READS IS OF BULK AT MOST 1048576: true; the input reads as it did. -/
def fnTransposePictureUptoRow : OpenClaim := { program := "ytinmfeflbaeodaa", sum := "225ffc1ca6c0df058a097645877f95586b92806e33ce50453846cc0eea5f59e4", func := "loop.example/videocodec/laws.FnTransposePicture", spec := "fnTransposePicture", apart := false, narrowed := true }
def FnTransposePictureUptoSaid : Prop := fnTransposePictureUptoRow.holds Try.pinned (OpenSpec.upto fnTransposePictureSpec)

/-- 'laws.FnNewPicture', WHERE WHAT IT READS IS OF BULK AT MOST 1048576: true; the input reads as it did. -/
def fnNewPictureUptoRow : OpenClaim := { program := "ytinmfeflbaeodaa", sum := "225ffc1ca6c0df058a097645877f95586b92806e33ce50453846cc0eea5f59e4", func := "loop.example/videocodec/laws.FnNewPicture", spec := "fnNewPicture", apart := false, narrowed := true }
def FnNewPictureUptoSaid : Prop := fnNewPictureUptoRow.holds Try.pinned (OpenSpec.upto fnNewPictureSpec)

/-- 'laws.FnPictureValid', WHERE WHAT IT READS IS OF BULK AT MOST 1048576: true; the input reads as it did. -/
def fnPictureValidUptoRow : OpenClaim := { program := "ytinmfeflbaeodaa", sum := "225ffc1ca6c0df058a097645877f95586b92806e33ce50453846cc0eea5f59e4", func := "loop.example/videocodec/laws.FnPictureValid", spec := "fnPictureValid", apart := false, narrowed := true }
def FnPictureValidUptoSaid : Prop := fnPictureValidUptoRow.holds Try.pinned (OpenSpec.upto fnPictureValidSpec)

/-- 'laws.FnSampleAt', WHERE WHAT IT READS IS OF BULK AT MOST 1048576: true; the input reads as it did. -/
def fnSampleAtUptoRow : OpenClaim := { program := "ytinmfeflbaeodaa", sum := "225ffc1ca6c0df058a097645877f95586b92806e33ce50453846cc0eea5f59e4", func := "loop.example/videocodec/laws.FnSampleAt", spec := "fnSampleAt", apart := false, narrowed := true }
def FnSampleAtUptoSaid : Prop := fnSampleAtUptoRow.holds Try.pinned (OpenSpec.upto fnSampleAtSpec)

/-- 'laws.FnTranspose', WHERE WHAT IT READS IS OF BULK AT MOST 1048576: true; the input reads as it did. -/
def fnTransposeUptoRow : OpenClaim := { program := "ytinmfeflbaeodaa", sum := "225ffc1ca6c0df058a097645877f95586b92806e33ce50453846cc0eea5f59e4", func := "loop.example/videocodec/laws.FnTranspose", spec := "fnTranspose", apart := false, narrowed := true }
def FnTransposeUptoSaid : Prop := fnTransposeUptoRow.holds Try.pinned (OpenSpec.upto fnTransposeSpec)

/-- 'laws.FnSquaredDifference', WHERE WHAT IT READS IS OF BULK AT MOST 1048576: true; the input reads as it did. -/
def fnSquaredDifferenceUptoRow : OpenClaim := { program := "ytinmfeflbaeodaa", sum := "225ffc1ca6c0df058a097645877f95586b92806e33ce50453846cc0eea5f59e4", func := "loop.example/videocodec/laws.FnSquaredDifference", spec := "fnSquaredDifference", apart := false, narrowed := true }
def FnSquaredDifferenceUptoSaid : Prop := fnSquaredDifferenceUptoRow.holds Try.pinned (OpenSpec.upto fnSquaredDifferenceSpec)

/-- 'laws.FnAbsoluteDifference', WHERE WHAT IT READS IS OF BULK AT MOST 1048576: true; the input reads as it did. -/
def fnAbsoluteDifferenceUptoRow : OpenClaim := { program := "ytinmfeflbaeodaa", sum := "225ffc1ca6c0df058a097645877f95586b92806e33ce50453846cc0eea5f59e4", func := "loop.example/videocodec/laws.FnAbsoluteDifference", spec := "fnAbsoluteDifference", apart := false, narrowed := true }
def FnAbsoluteDifferenceUptoSaid : Prop := fnAbsoluteDifferenceUptoRow.holds Try.pinned (OpenSpec.upto fnAbsoluteDifferenceSpec)

/-- 'laws.FnEdgesValid', WHERE WHAT IT READS IS OF BULK AT MOST 1048576: true; the input reads as it did. -/
def fnEdgesValidUptoRow : OpenClaim := { program := "ytinmfeflbaeodaa", sum := "225ffc1ca6c0df058a097645877f95586b92806e33ce50453846cc0eea5f59e4", func := "loop.example/videocodec/laws.FnEdgesValid", spec := "fnEdgesValid", apart := false, narrowed := true }
def FnEdgesValidUptoSaid : Prop := fnEdgesValidUptoRow.holds Try.pinned (OpenSpec.upto fnEdgesValidSpec)

end Rows
end Go.Proofs.Ytinmfeflbaeodaa
