/-
  No cell of these rows narrows 'for every input' (looked for: loops, veiled, ifaces, maps, wideKeys, modest, calm, conditions, laid).
  DERIVED. THE GIVEN ROWS OF THIS SEAT. 9 by the template 'for every input the law returns true; each argument reads behind the call as it read before'; 0 by the template 'total and deterministic' (their statements: YtjogdkeoadkbnaaTotals.lean).
  GIVEN WITH THE SEED: the statements are not yours to turn. If you find one false, say at which input.
  Laid BY PROGRAM, IN A SANDBOX (cutbox-rows.mjs): the forced cells as the released guide's own fill.sh prints them over the translation d439b2e42db64449… (all of the seat's roots in one cut). By AI agents, Wed Nov 11 2026. No macro, syntax, notation, axiom, sorry.
-/
import Derived.Test.YtjogdkeoadkbnaaChecked
import GoSem.Claim
import GoSem.ClaimJoined
import GoSem.ClaimMapViews
import Derived.JoinedTies
import Derived.KernelRfl
namespace Go.Proofs.Ytjogdkeoadkbnaa
/- THE CELL 'sum', in the pinned program and in every row, IS THE sha256 OF THE DUMP (.gsa) THAT YtjogdkeoadkbnaaProg.lean LOADS. Nothing in Lean hashes anything: it is a label: what it is worth is what the hold of that sum in a sandbox is worth. -/
noncomputable def Try.pinned : Pinned := { name := "ytjogdkeoadkbnaa", sum := "d439b2e42db64449a3c47a3ed74f8277ace950b4f8dcbcea561c610474cc8f0c", checked := Try.checked }
namespace Rows
def none {H : Type} : Left H := { results := [], args := [] }

/-- 'laws.FnExactNewPicture': WHATEVER THE INPUT: true; the input reads as it did. -/
def fnExactNewPictureSpec : ChangeSpec := { name := "fnExactNewPicture", fn := fun _ => fun
  | [d1, d2, d3] => { results := [.lit (.bool true)], args := [d1, d2, d3] }
  | _ => none }
def fnExactNewPictureRow : OpenClaim := { program := "ytjogdkeoadkbnaa", sum := "d439b2e42db64449a3c47a3ed74f8277ace950b4f8dcbcea561c610474cc8f0c", func := "loop.example/videocodec/laws.FnExactNewPicture", spec := "fnExactNewPicture", apart := false }
def FnExactNewPictureSaid : Prop := fnExactNewPictureRow.holds Try.pinned (OpenSpec.ofChange fnExactNewPictureSpec)

/-- ITS FALSE NEIGHBOUR: 'it returns false'. Refute it at one input. -/
def fnExactNewPictureWrong : ChangeSpec := { name := "fnExactNewPicture", fn := fun _ => fun
  | [d1, d2, d3] => { results := [.lit (.bool false)], args := [d1, d2, d3] }
  | _ => none }
def FnExactNewPictureWrongFalsely : Prop := fnExactNewPictureRow.holds Try.pinned (OpenSpec.ofChange fnExactNewPictureWrong)

/-- 'laws.FnExactPictureValid': WHATEVER THE INPUT: true; the input reads as it did. -/
def fnExactPictureValidSpec : ChangeSpec := { name := "fnExactPictureValid", fn := fun _ => fun
  | [d] => { results := [.lit (.bool true)], args := [d] }
  | _ => none }
def fnExactPictureValidRow : OpenClaim := { program := "ytjogdkeoadkbnaa", sum := "d439b2e42db64449a3c47a3ed74f8277ace950b4f8dcbcea561c610474cc8f0c", func := "loop.example/videocodec/laws.FnExactPictureValid", spec := "fnExactPictureValid", apart := false }
def FnExactPictureValidSaid : Prop := fnExactPictureValidRow.holds Try.pinned (OpenSpec.ofChange fnExactPictureValidSpec)

/-- ITS FALSE NEIGHBOUR: 'it returns false'. Refute it at one input. -/
def fnExactPictureValidWrong : ChangeSpec := { name := "fnExactPictureValid", fn := fun _ => fun
  | [d] => { results := [.lit (.bool false)], args := [d] }
  | _ => none }
def FnExactPictureValidWrongFalsely : Prop := fnExactPictureValidRow.holds Try.pinned (OpenSpec.ofChange fnExactPictureValidWrong)

/-- 'laws.FnExactSampleAt': WHATEVER THE INPUT: true; the input reads as it did. -/
def fnExactSampleAtSpec : ChangeSpec := { name := "fnExactSampleAt", fn := fun _ => fun
  | [d1, d2, d3] => { results := [.lit (.bool true)], args := [d1, d2, d3] }
  | _ => none }
def fnExactSampleAtRow : OpenClaim := { program := "ytjogdkeoadkbnaa", sum := "d439b2e42db64449a3c47a3ed74f8277ace950b4f8dcbcea561c610474cc8f0c", func := "loop.example/videocodec/laws.FnExactSampleAt", spec := "fnExactSampleAt", apart := false }
def FnExactSampleAtSaid : Prop := fnExactSampleAtRow.holds Try.pinned (OpenSpec.ofChange fnExactSampleAtSpec)

/-- ITS FALSE NEIGHBOUR: 'it returns false'. Refute it at one input. -/
def fnExactSampleAtWrong : ChangeSpec := { name := "fnExactSampleAt", fn := fun _ => fun
  | [d1, d2, d3] => { results := [.lit (.bool false)], args := [d1, d2, d3] }
  | _ => none }
def FnExactSampleAtWrongFalsely : Prop := fnExactSampleAtRow.holds Try.pinned (OpenSpec.ofChange fnExactSampleAtWrong)

/-- 'laws.FnExactSquaredDifference': WHATEVER THE INPUT: true; the input reads as it did. -/
def fnExactSquaredDifferenceSpec : ChangeSpec := { name := "fnExactSquaredDifference", fn := fun _ => fun
  | [d1, d2] => { results := [.lit (.bool true)], args := [d1, d2] }
  | _ => none }
def fnExactSquaredDifferenceRow : OpenClaim := { program := "ytjogdkeoadkbnaa", sum := "d439b2e42db64449a3c47a3ed74f8277ace950b4f8dcbcea561c610474cc8f0c", func := "loop.example/videocodec/laws.FnExactSquaredDifference", spec := "fnExactSquaredDifference", apart := false }
def FnExactSquaredDifferenceSaid : Prop := fnExactSquaredDifferenceRow.holds Try.pinned (OpenSpec.ofChange fnExactSquaredDifferenceSpec)

/-- ITS FALSE NEIGHBOUR: 'it returns false'. Refute it at one input. -/
def fnExactSquaredDifferenceWrong : ChangeSpec := { name := "fnExactSquaredDifference", fn := fun _ => fun
  | [d1, d2] => { results := [.lit (.bool false)], args := [d1, d2] }
  | _ => none }
def FnExactSquaredDifferenceWrongFalsely : Prop := fnExactSquaredDifferenceRow.holds Try.pinned (OpenSpec.ofChange fnExactSquaredDifferenceWrong)

/-- 'laws.FnExactAbsoluteDifference': WHATEVER THE INPUT: true; the input reads as it did. -/
def fnExactAbsoluteDifferenceSpec : ChangeSpec := { name := "fnExactAbsoluteDifference", fn := fun _ => fun
  | [d1, d2] => { results := [.lit (.bool true)], args := [d1, d2] }
  | _ => none }
def fnExactAbsoluteDifferenceRow : OpenClaim := { program := "ytjogdkeoadkbnaa", sum := "d439b2e42db64449a3c47a3ed74f8277ace950b4f8dcbcea561c610474cc8f0c", func := "loop.example/videocodec/laws.FnExactAbsoluteDifference", spec := "fnExactAbsoluteDifference", apart := false }
def FnExactAbsoluteDifferenceSaid : Prop := fnExactAbsoluteDifferenceRow.holds Try.pinned (OpenSpec.ofChange fnExactAbsoluteDifferenceSpec)

/-- ITS FALSE NEIGHBOUR: 'it returns false'. Refute it at one input. -/
def fnExactAbsoluteDifferenceWrong : ChangeSpec := { name := "fnExactAbsoluteDifference", fn := fun _ => fun
  | [d1, d2] => { results := [.lit (.bool false)], args := [d1, d2] }
  | _ => none }
def FnExactAbsoluteDifferenceWrongFalsely : Prop := fnExactAbsoluteDifferenceRow.holds Try.pinned (OpenSpec.ofChange fnExactAbsoluteDifferenceWrong)

/-- 'laws.FnExactTranspose': WHATEVER THE INPUT: true; the input reads as it did. -/
def fnExactTransposeSpec : ChangeSpec := { name := "fnExactTranspose", fn := fun _ => fun
  | [d] => { results := [.lit (.bool true)], args := [d] }
  | _ => none }
def fnExactTransposeRow : OpenClaim := { program := "ytjogdkeoadkbnaa", sum := "d439b2e42db64449a3c47a3ed74f8277ace950b4f8dcbcea561c610474cc8f0c", func := "loop.example/videocodec/laws.FnExactTranspose", spec := "fnExactTranspose", apart := false }
def FnExactTransposeSaid : Prop := fnExactTransposeRow.holds Try.pinned (OpenSpec.ofChange fnExactTransposeSpec)

/-- ITS FALSE NEIGHBOUR: 'it returns false'. Refute it at one input. -/
def fnExactTransposeWrong : ChangeSpec := { name := "fnExactTranspose", fn := fun _ => fun
  | [d] => { results := [.lit (.bool false)], args := [d] }
  | _ => none }
def FnExactTransposeWrongFalsely : Prop := fnExactTransposeRow.holds Try.pinned (OpenSpec.ofChange fnExactTransposeWrong)

/-- 'laws.FnExactEdgesAt': WHATEVER THE INPUT: true; the input reads as it did. -/
def fnExactEdgesAtSpec : ChangeSpec := { name := "fnExactEdgesAt", fn := fun _ => fun
  | [d1, d2, d3, d4] => { results := [.lit (.bool true)], args := [d1, d2, d3, d4] }
  | _ => none }
def fnExactEdgesAtRow : OpenClaim := { program := "ytjogdkeoadkbnaa", sum := "d439b2e42db64449a3c47a3ed74f8277ace950b4f8dcbcea561c610474cc8f0c", func := "loop.example/videocodec/laws.FnExactEdgesAt", spec := "fnExactEdgesAt", apart := false }
def FnExactEdgesAtSaid : Prop := fnExactEdgesAtRow.holds Try.pinned (OpenSpec.ofChange fnExactEdgesAtSpec)

/-- ITS FALSE NEIGHBOUR: 'it returns false'. Refute it at one input. -/
def fnExactEdgesAtWrong : ChangeSpec := { name := "fnExactEdgesAt", fn := fun _ => fun
  | [d1, d2, d3, d4] => { results := [.lit (.bool false)], args := [d1, d2, d3, d4] }
  | _ => none }
def FnExactEdgesAtWrongFalsely : Prop := fnExactEdgesAtRow.holds Try.pinned (OpenSpec.ofChange fnExactEdgesAtWrong)

/-- 'laws.FnExactEdgesValid': WHATEVER THE INPUT: true; the input reads as it did. -/
def fnExactEdgesValidSpec : ChangeSpec := { name := "fnExactEdgesValid", fn := fun _ => fun
  | [d] => { results := [.lit (.bool true)], args := [d] }
  | _ => none }
def fnExactEdgesValidRow : OpenClaim := { program := "ytjogdkeoadkbnaa", sum := "d439b2e42db64449a3c47a3ed74f8277ace950b4f8dcbcea561c610474cc8f0c", func := "loop.example/videocodec/laws.FnExactEdgesValid", spec := "fnExactEdgesValid", apart := false }
def FnExactEdgesValidSaid : Prop := fnExactEdgesValidRow.holds Try.pinned (OpenSpec.ofChange fnExactEdgesValidSpec)

/-- ITS FALSE NEIGHBOUR: 'it returns false'. Refute it at one input. -/
def fnExactEdgesValidWrong : ChangeSpec := { name := "fnExactEdgesValid", fn := fun _ => fun
  | [d] => { results := [.lit (.bool false)], args := [d] }
  | _ => none }
def FnExactEdgesValidWrongFalsely : Prop := fnExactEdgesValidRow.holds Try.pinned (OpenSpec.ofChange fnExactEdgesValidWrong)

/-- 'laws.FnExactPredictIntra': WHATEVER THE INPUT: true; the input reads as it did. -/
def fnExactPredictIntraSpec : ChangeSpec := { name := "fnExactPredictIntra", fn := fun _ => fun
  | [d1, d2] => { results := [.lit (.bool true)], args := [d1, d2] }
  | _ => none }
def fnExactPredictIntraRow : OpenClaim := { program := "ytjogdkeoadkbnaa", sum := "d439b2e42db64449a3c47a3ed74f8277ace950b4f8dcbcea561c610474cc8f0c", func := "loop.example/videocodec/laws.FnExactPredictIntra", spec := "fnExactPredictIntra", unfollowed := true, recurses := true, apart := false }
def FnExactPredictIntraSaid : Prop := fnExactPredictIntraRow.holds Try.pinned (OpenSpec.ofChange fnExactPredictIntraSpec)

/-- ITS FALSE NEIGHBOUR: 'it returns false'. Refute it at one input. -/
def fnExactPredictIntraWrong : ChangeSpec := { name := "fnExactPredictIntra", fn := fun _ => fun
  | [d1, d2] => { results := [.lit (.bool false)], args := [d1, d2] }
  | _ => none }
def FnExactPredictIntraWrongFalsely : Prop := fnExactPredictIntraRow.holds Try.pinned (OpenSpec.ofChange fnExactPredictIntraWrong)

/- THE SECOND FORM. 'bulk': how many values and letters a reading holds, each counted each time it is reached (what is shared counts as often as it is met; a slice's spare places count too). A statement '..UptoSaid' is the law's where the arguments, and the package variables that the reading takes, are together of bulk at most 1048576: NARROWER than '..Said'. Prove '..Said' where nothing that the law and all that it calls make is longer than what came in: it says more and counts as full. Else prove '..UptoSaid'. A law counts once. -/
mutual
def uptoBulk {H : Type} : DataW H → Nat
  | .lit (.string bytes) => bytes.length + 1
  | .lit _ => 1
  | .nil => 1
  | .ptr d => uptoBulk d + 1
  | .slice elems spare => uptoBulkAll elems + uptoBulkAll spare + 1
  | .agg parts => uptoBulkAll parts + 1
  | .iface _ d => uptoBulk d + 1
  | .map entries => uptoBulkEntries entries + 1
  | .held _ => 1
def uptoBulkAll {H : Type} : List (DataW H) → Nat
  | [] => 0
  | d :: r => uptoBulk d + uptoBulkAll r
def uptoBulkEntries {H : Type} : List (Lit × DataW H) → Nat
  | [] => 0
  | x :: r => uptoBulkEntry x + uptoBulkEntries r
def uptoBulkEntry {H : Type} : Lit × DataW H → Nat
  | (.string bytes, d) => bytes.length + uptoBulk d + 1
  | (_, d) => uptoBulk d + 1
 end
def uptoSmall : (H : Type) → List (DataW H) → Bool := fun _ ds => decide (uptoBulkAll ds ≤ 1048576)
def OpenSpec.upto (s : _root_.Go.ChangeSpec) : _root_.Go.OpenSpec := { _root_.Go.OpenSpec.ofChange s with cond := some uptoSmall }

/-- 'laws.FnExactNewPicture', WHERE WHAT IT READS IS OF BULK AT MOST 1048576: true; the input reads as it did. -/
def fnExactNewPictureUptoRow : OpenClaim := { program := "ytjogdkeoadkbnaa", sum := "d439b2e42db64449a3c47a3ed74f8277ace950b4f8dcbcea561c610474cc8f0c", func := "loop.example/videocodec/laws.FnExactNewPicture", spec := "fnExactNewPicture", apart := false, narrowed := true }
def FnExactNewPictureUptoSaid : Prop := fnExactNewPictureUptoRow.holds Try.pinned (OpenSpec.upto fnExactNewPictureSpec)

/-- 'laws.FnExactPictureValid', WHERE WHAT IT READS IS OF BULK AT MOST 1048576: true; the input reads as it did. -/
def fnExactPictureValidUptoRow : OpenClaim := { program := "ytjogdkeoadkbnaa", sum := "d439b2e42db64449a3c47a3ed74f8277ace950b4f8dcbcea561c610474cc8f0c", func := "loop.example/videocodec/laws.FnExactPictureValid", spec := "fnExactPictureValid", apart := false, narrowed := true }
def FnExactPictureValidUptoSaid : Prop := fnExactPictureValidUptoRow.holds Try.pinned (OpenSpec.upto fnExactPictureValidSpec)

/-- 'laws.FnExactSampleAt', WHERE WHAT IT READS IS OF BULK AT MOST 1048576: true; the input reads as it did. -/
def fnExactSampleAtUptoRow : OpenClaim := { program := "ytjogdkeoadkbnaa", sum := "d439b2e42db64449a3c47a3ed74f8277ace950b4f8dcbcea561c610474cc8f0c", func := "loop.example/videocodec/laws.FnExactSampleAt", spec := "fnExactSampleAt", apart := false, narrowed := true }
def FnExactSampleAtUptoSaid : Prop := fnExactSampleAtUptoRow.holds Try.pinned (OpenSpec.upto fnExactSampleAtSpec)

/-- 'laws.FnExactSquaredDifference', WHERE WHAT IT READS IS OF BULK AT MOST 1048576: true; the input reads as it did. -/
def fnExactSquaredDifferenceUptoRow : OpenClaim := { program := "ytjogdkeoadkbnaa", sum := "d439b2e42db64449a3c47a3ed74f8277ace950b4f8dcbcea561c610474cc8f0c", func := "loop.example/videocodec/laws.FnExactSquaredDifference", spec := "fnExactSquaredDifference", apart := false, narrowed := true }
def FnExactSquaredDifferenceUptoSaid : Prop := fnExactSquaredDifferenceUptoRow.holds Try.pinned (OpenSpec.upto fnExactSquaredDifferenceSpec)

/-- 'laws.FnExactAbsoluteDifference', WHERE WHAT IT READS IS OF BULK AT MOST 1048576: true; the input reads as it did. -/
def fnExactAbsoluteDifferenceUptoRow : OpenClaim := { program := "ytjogdkeoadkbnaa", sum := "d439b2e42db64449a3c47a3ed74f8277ace950b4f8dcbcea561c610474cc8f0c", func := "loop.example/videocodec/laws.FnExactAbsoluteDifference", spec := "fnExactAbsoluteDifference", apart := false, narrowed := true }
def FnExactAbsoluteDifferenceUptoSaid : Prop := fnExactAbsoluteDifferenceUptoRow.holds Try.pinned (OpenSpec.upto fnExactAbsoluteDifferenceSpec)

/-- 'laws.FnExactTranspose', WHERE WHAT IT READS IS OF BULK AT MOST 1048576: true; the input reads as it did. -/
def fnExactTransposeUptoRow : OpenClaim := { program := "ytjogdkeoadkbnaa", sum := "d439b2e42db64449a3c47a3ed74f8277ace950b4f8dcbcea561c610474cc8f0c", func := "loop.example/videocodec/laws.FnExactTranspose", spec := "fnExactTranspose", apart := false, narrowed := true }
def FnExactTransposeUptoSaid : Prop := fnExactTransposeUptoRow.holds Try.pinned (OpenSpec.upto fnExactTransposeSpec)

/-- 'laws.FnExactEdgesAt', WHERE WHAT IT READS IS OF BULK AT MOST 1048576: true; the input reads as it did. -/
def fnExactEdgesAtUptoRow : OpenClaim := { program := "ytjogdkeoadkbnaa", sum := "d439b2e42db64449a3c47a3ed74f8277ace950b4f8dcbcea561c610474cc8f0c", func := "loop.example/videocodec/laws.FnExactEdgesAt", spec := "fnExactEdgesAt", apart := false, narrowed := true }
def FnExactEdgesAtUptoSaid : Prop := fnExactEdgesAtUptoRow.holds Try.pinned (OpenSpec.upto fnExactEdgesAtSpec)

/-- 'laws.FnExactEdgesValid', WHERE WHAT IT READS IS OF BULK AT MOST 1048576: true; the input reads as it did. -/
def fnExactEdgesValidUptoRow : OpenClaim := { program := "ytjogdkeoadkbnaa", sum := "d439b2e42db64449a3c47a3ed74f8277ace950b4f8dcbcea561c610474cc8f0c", func := "loop.example/videocodec/laws.FnExactEdgesValid", spec := "fnExactEdgesValid", apart := false, narrowed := true }
def FnExactEdgesValidUptoSaid : Prop := fnExactEdgesValidUptoRow.holds Try.pinned (OpenSpec.upto fnExactEdgesValidSpec)

/-- 'laws.FnExactPredictIntra', WHERE WHAT IT READS IS OF BULK AT MOST 1048576: true; the input reads as it did. -/
def fnExactPredictIntraUptoRow : OpenClaim := { program := "ytjogdkeoadkbnaa", sum := "d439b2e42db64449a3c47a3ed74f8277ace950b4f8dcbcea561c610474cc8f0c", func := "loop.example/videocodec/laws.FnExactPredictIntra", spec := "fnExactPredictIntra", unfollowed := true, recurses := true, apart := false, narrowed := true }
def FnExactPredictIntraUptoSaid : Prop := fnExactPredictIntraUptoRow.holds Try.pinned (OpenSpec.upto fnExactPredictIntraSpec)

end Rows
end Go.Proofs.Ytjogdkeoadkbnaa
