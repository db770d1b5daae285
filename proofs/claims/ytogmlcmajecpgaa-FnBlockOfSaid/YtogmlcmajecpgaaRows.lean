/-
  No cell of these rows narrows 'for every input' (looked for: loops, veiled, ifaces, maps, wideKeys, modest, calm, conditions, laid).
  DERIVED. THE GIVEN ROWS OF THIS SEAT. 7 by the template 'for every input the law returns true; each argument reads behind the call as it read before'; 0 by the template 'total and deterministic' (their statements: YtogmlcmajecpgaaTotals.lean).
  GIVEN WITH THE SEED: the statements are not yours to turn. If you find one false, say at which input.
  Laid BY PROGRAM, IN A SANDBOX (cutbox-rows.mjs): the forced cells as the released guide's own fill.sh prints them over the translation be281647f192df59… (all of the seat's roots in one cut). By AI agents, Wed Nov 11 2026. No macro, syntax, notation, axiom, sorry.
-/
import Derived.Test.YtogmlcmajecpgaaChecked
import GoSem.Claim
import GoSem.ClaimJoined
import GoSem.ClaimMapViews
import Derived.JoinedTies
import Derived.KernelRfl
namespace Go.Proofs.Ytogmlcmajecpgaa
/- THE CELL 'sum', in the pinned program and in every row, IS THE sha256 OF THE DUMP (.gsa) THAT YtogmlcmajecpgaaProg.lean LOADS. Nothing in Lean hashes anything: it is a label: what it is worth is what the hold of that sum in a sandbox is worth. -/
noncomputable def Try.pinned : Pinned := { name := "ytogmlcmajecpgaa", sum := "be281647f192df59d5066469201d7fc64dab18c6b0df1ccfc7430aac974abaa5", checked := Try.checked }
namespace Rows
def none {H : Type} : Left H := { results := [], args := [] }

/-- 'laws.FnScanOrder': WHATEVER THE INPUT: true; the input reads as it did. -/
def fnScanOrderSpec : ChangeSpec := { name := "fnScanOrder", fn := fun _ => fun
  | [d] => { results := [.lit (.bool true)], args := [d] }
  | _ => none }
def fnScanOrderRow : OpenClaim := { program := "ytogmlcmajecpgaa", sum := "be281647f192df59d5066469201d7fc64dab18c6b0df1ccfc7430aac974abaa5", func := "loop.example/videocodec/laws.FnScanOrder", spec := "fnScanOrder", apart := false }
def FnScanOrderSaid : Prop := fnScanOrderRow.holds Try.pinned (OpenSpec.ofChange fnScanOrderSpec)

/-- ITS FALSE NEIGHBOUR: 'it returns false'. Refute it at one input. -/
def fnScanOrderWrong : ChangeSpec := { name := "fnScanOrder", fn := fun _ => fun
  | [d] => { results := [.lit (.bool false)], args := [d] }
  | _ => none }
def FnScanOrderWrongFalsely : Prop := fnScanOrderRow.holds Try.pinned (OpenSpec.ofChange fnScanOrderWrong)

/-- 'laws.FnExactNonzeroCount': WHATEVER THE INPUT: true; the input reads as it did. -/
def fnExactNonzeroCountSpec : ChangeSpec := { name := "fnExactNonzeroCount", fn := fun _ => fun
  | [d] => { results := [.lit (.bool true)], args := [d] }
  | _ => none }
def fnExactNonzeroCountRow : OpenClaim := { program := "ytogmlcmajecpgaa", sum := "be281647f192df59d5066469201d7fc64dab18c6b0df1ccfc7430aac974abaa5", func := "loop.example/videocodec/laws.FnExactNonzeroCount", spec := "fnExactNonzeroCount", unfollowed := true, recurses := true, apart := false }
def FnExactNonzeroCountSaid : Prop := fnExactNonzeroCountRow.holds Try.pinned (OpenSpec.ofChange fnExactNonzeroCountSpec)

/-- ITS FALSE NEIGHBOUR: 'it returns false'. Refute it at one input. -/
def fnExactNonzeroCountWrong : ChangeSpec := { name := "fnExactNonzeroCount", fn := fun _ => fun
  | [d] => { results := [.lit (.bool false)], args := [d] }
  | _ => none }
def FnExactNonzeroCountWrongFalsely : Prop := fnExactNonzeroCountRow.holds Try.pinned (OpenSpec.ofChange fnExactNonzeroCountWrong)

/-- 'laws.FnExactScanOrder': WHATEVER THE INPUT: true; the input reads as it did. -/
def fnExactScanOrderSpec : ChangeSpec := { name := "fnExactScanOrder", fn := fun _ => fun
  | [] => { results := [.lit (.bool true)], args := [] }
  | _ => none }
def fnExactScanOrderRow : OpenClaim := { program := "ytogmlcmajecpgaa", sum := "be281647f192df59d5066469201d7fc64dab18c6b0df1ccfc7430aac974abaa5", func := "loop.example/videocodec/laws.FnExactScanOrder", spec := "fnExactScanOrder", apart := false }
def FnExactScanOrderSaid : Prop := fnExactScanOrderRow.holds Try.pinned (OpenSpec.ofChange fnExactScanOrderSpec)

/-- ITS FALSE NEIGHBOUR: 'it returns false'. Refute it at one input. -/
def fnExactScanOrderWrong : ChangeSpec := { name := "fnExactScanOrder", fn := fun _ => fun
  | [] => { results := [.lit (.bool false)], args := [] }
  | _ => none }
def FnExactScanOrderWrongFalsely : Prop := fnExactScanOrderRow.holds Try.pinned (OpenSpec.ofChange fnExactScanOrderWrong)

/-- 'laws.FnExactBlockOf': WHATEVER THE INPUT: true; the input reads as it did. -/
def fnExactBlockOfSpec : ChangeSpec := { name := "fnExactBlockOf", fn := fun _ => fun
  | [d] => { results := [.lit (.bool true)], args := [d] }
  | _ => none }
def fnExactBlockOfRow : OpenClaim := { program := "ytogmlcmajecpgaa", sum := "be281647f192df59d5066469201d7fc64dab18c6b0df1ccfc7430aac974abaa5", func := "loop.example/videocodec/laws.FnExactBlockOf", spec := "fnExactBlockOf", apart := false }
def FnExactBlockOfSaid : Prop := fnExactBlockOfRow.holds Try.pinned (OpenSpec.ofChange fnExactBlockOfSpec)

/-- ITS FALSE NEIGHBOUR: 'it returns false'. Refute it at one input. -/
def fnExactBlockOfWrong : ChangeSpec := { name := "fnExactBlockOf", fn := fun _ => fun
  | [d] => { results := [.lit (.bool false)], args := [d] }
  | _ => none }
def FnExactBlockOfWrongFalsely : Prop := fnExactBlockOfRow.holds Try.pinned (OpenSpec.ofChange fnExactBlockOfWrong)

/-- 'laws.FnExactRunsOf': WHATEVER THE INPUT: true; the input reads as it did. -/
def fnExactRunsOfSpec : ChangeSpec := { name := "fnExactRunsOf", fn := fun _ => fun
  | [d] => { results := [.lit (.bool true)], args := [d] }
  | _ => none }
def fnExactRunsOfRow : OpenClaim := { program := "ytogmlcmajecpgaa", sum := "be281647f192df59d5066469201d7fc64dab18c6b0df1ccfc7430aac974abaa5", func := "loop.example/videocodec/laws.FnExactRunsOf", spec := "fnExactRunsOf", unfollowed := true, recurses := true, apart := false }
def FnExactRunsOfSaid : Prop := fnExactRunsOfRow.holds Try.pinned (OpenSpec.ofChange fnExactRunsOfSpec)

/-- ITS FALSE NEIGHBOUR: 'it returns false'. Refute it at one input. -/
def fnExactRunsOfWrong : ChangeSpec := { name := "fnExactRunsOf", fn := fun _ => fun
  | [d] => { results := [.lit (.bool false)], args := [d] }
  | _ => none }
def FnExactRunsOfWrongFalsely : Prop := fnExactRunsOfRow.holds Try.pinned (OpenSpec.ofChange fnExactRunsOfWrong)

/-- 'laws.FnRunsOf': WHATEVER THE INPUT: true; the input reads as it did. -/
def fnRunsOfSpec : ChangeSpec := { name := "fnRunsOf", fn := fun _ => fun
  | [d] => { results := [.lit (.bool true)], args := [d] }
  | _ => none }
def fnRunsOfRow : OpenClaim := { program := "ytogmlcmajecpgaa", sum := "be281647f192df59d5066469201d7fc64dab18c6b0df1ccfc7430aac974abaa5", func := "loop.example/videocodec/laws.FnRunsOf", spec := "fnRunsOf", unfollowed := true, recurses := true, apart := false }
def FnRunsOfSaid : Prop := fnRunsOfRow.holds Try.pinned (OpenSpec.ofChange fnRunsOfSpec)

/-- ITS FALSE NEIGHBOUR: 'it returns false'. Refute it at one input. -/
def fnRunsOfWrong : ChangeSpec := { name := "fnRunsOf", fn := fun _ => fun
  | [d] => { results := [.lit (.bool false)], args := [d] }
  | _ => none }
def FnRunsOfWrongFalsely : Prop := fnRunsOfRow.holds Try.pinned (OpenSpec.ofChange fnRunsOfWrong)

/-- 'laws.FnBlockOf': WHATEVER THE INPUT: true; the input reads as it did. -/
def fnBlockOfSpec : ChangeSpec := { name := "fnBlockOf", fn := fun _ => fun
  | [d] => { results := [.lit (.bool true)], args := [d] }
  | _ => none }
def fnBlockOfRow : OpenClaim := { program := "ytogmlcmajecpgaa", sum := "be281647f192df59d5066469201d7fc64dab18c6b0df1ccfc7430aac974abaa5", func := "loop.example/videocodec/laws.FnBlockOf", spec := "fnBlockOf", unfollowed := true, recurses := true, apart := false }
def FnBlockOfSaid : Prop := fnBlockOfRow.holds Try.pinned (OpenSpec.ofChange fnBlockOfSpec)

/-- ITS FALSE NEIGHBOUR: 'it returns false'. Refute it at one input. -/
def fnBlockOfWrong : ChangeSpec := { name := "fnBlockOf", fn := fun _ => fun
  | [d] => { results := [.lit (.bool false)], args := [d] }
  | _ => none }
def FnBlockOfWrongFalsely : Prop := fnBlockOfRow.holds Try.pinned (OpenSpec.ofChange fnBlockOfWrong)

/- THE SECOND FORM. 'bulk': how many values and letters a reading holds, each counted each time it is reached (what is shared counts as often as it is met; a slice's spare places count too). A statement '..UptoSaid' is the law's where the arguments, and the package variables that the reading takes, are together of bulk at most 1048576: NARROWER than '..Said'. Prove '..Said' where nothing that the law and all that it calls make is longer than what came in: it says more and counts as full. Else prove '..UptoSaid'. A law counts once. -/
mutual
def uptoBulk {H : Type} : DataW H → Nat
  | .lit (.string bytes) => bytes.length + 1
  | .lit _ => 1
  | .nil => 1
  | .ptr d => uptoBulk d + 1
  | .slice elems spare => uptoBulkAll elems + uptoBulkAll spare + 1
  | .agg parts => uptoBulkAll parts + 1
  | .iface _ d => uptoBulk d + 1
  | .map entries => uptoBulkEntries entries + 1
  | .held _ => 1
def uptoBulkAll {H : Type} : List (DataW H) → Nat
  | [] => 0
  | d :: r => uptoBulk d + uptoBulkAll r
def uptoBulkEntries {H : Type} : List (Lit × DataW H) → Nat
  | [] => 0
  | x :: r => uptoBulkEntry x + uptoBulkEntries r
def uptoBulkEntry {H : Type} : Lit × DataW H → Nat
  | (.string bytes, d) => bytes.length + uptoBulk d + 1
  | (_, d) => uptoBulk d + 1
 end
def uptoSmall : (H : Type) → List (DataW H) → Bool := fun _ ds => decide (uptoBulkAll ds ≤ 1048576)
def OpenSpec.upto (s : _root_.Go.ChangeSpec) : _root_.Go.OpenSpec := { _root_.Go.OpenSpec.ofChange s with cond := some uptoSmall }

/-- 'laws.FnScanOrder', WHERE WHAT IT READS IS OF BULK AT MOST 1048576: true; the input reads as it did. -/
def fnScanOrderUptoRow : OpenClaim := { program := "ytogmlcmajecpgaa", sum := "be281647f192df59d5066469201d7fc64dab18c6b0df1ccfc7430aac974abaa5", func := "loop.example/videocodec/laws.FnScanOrder", spec := "fnScanOrder", apart := false, narrowed := true }
def FnScanOrderUptoSaid : Prop := fnScanOrderUptoRow.holds Try.pinned (OpenSpec.upto fnScanOrderSpec)

/-- 'laws.FnExactNonzeroCount', WHERE WHAT IT READS IS OF BULK AT MOST 1048576: true; the input reads as it did. -/
def fnExactNonzeroCountUptoRow : OpenClaim := { program := "ytogmlcmajecpgaa", sum := "be281647f192df59d5066469201d7fc64dab18c6b0df1ccfc7430aac974abaa5", func := "loop.example/videocodec/laws.FnExactNonzeroCount", spec := "fnExactNonzeroCount", unfollowed := true, recurses := true, apart := false, narrowed := true }
def FnExactNonzeroCountUptoSaid : Prop := fnExactNonzeroCountUptoRow.holds Try.pinned (OpenSpec.upto fnExactNonzeroCountSpec)

/-- 'laws.FnExactScanOrder', WHERE WHAT IT READS IS OF BULK AT MOST 1048576: true; the input reads as it did. -/
def fnExactScanOrderUptoRow : OpenClaim := { program := "ytogmlcmajecpgaa", sum := "be281647f192df59d5066469201d7fc64dab18c6b0df1ccfc7430aac974abaa5", func := "loop.example/videocodec/laws.FnExactScanOrder", spec := "fnExactScanOrder", apart := false, narrowed := true }
def FnExactScanOrderUptoSaid : Prop := fnExactScanOrderUptoRow.holds Try.pinned (OpenSpec.upto fnExactScanOrderSpec)

/-- 'laws.FnExactBlockOf', WHERE WHAT IT READS IS OF BULK AT MOST 1048576: true; the input reads as it did. -/
def fnExactBlockOfUptoRow : OpenClaim := { program := "ytogmlcmajecpgaa", sum := "be281647f192df59d5066469201d7fc64dab18c6b0df1ccfc7430aac974abaa5", func := "loop.example/videocodec/laws.FnExactBlockOf", spec := "fnExactBlockOf", apart := false, narrowed := true }
def FnExactBlockOfUptoSaid : Prop := fnExactBlockOfUptoRow.holds Try.pinned (OpenSpec.upto fnExactBlockOfSpec)

/-- 'laws.FnExactRunsOf', WHERE WHAT IT READS IS OF BULK AT MOST 1048576: true; the input reads as it did. -/
def fnExactRunsOfUptoRow : OpenClaim := { program := "ytogmlcmajecpgaa", sum := "be281647f192df59d5066469201d7fc64dab18c6b0df1ccfc7430aac974abaa5", func := "loop.example/videocodec/laws.FnExactRunsOf", spec := "fnExactRunsOf", unfollowed := true, recurses := true, apart := false, narrowed := true }
def FnExactRunsOfUptoSaid : Prop := fnExactRunsOfUptoRow.holds Try.pinned (OpenSpec.upto fnExactRunsOfSpec)

/-- 'laws.FnRunsOf', WHERE WHAT IT READS IS OF BULK AT MOST 1048576: true; the input reads as it did. -/
def fnRunsOfUptoRow : OpenClaim := { program := "ytogmlcmajecpgaa", sum := "be281647f192df59d5066469201d7fc64dab18c6b0df1ccfc7430aac974abaa5", func := "loop.example/videocodec/laws.FnRunsOf", spec := "fnRunsOf", unfollowed := true, recurses := true, apart := false, narrowed := true }
def FnRunsOfUptoSaid : Prop := fnRunsOfUptoRow.holds Try.pinned (OpenSpec.upto fnRunsOfSpec)

/-- 'laws.FnBlockOf', WHERE WHAT IT READS IS OF BULK AT MOST 1048576: true; the input reads as it did. -/
def fnBlockOfUptoRow : OpenClaim := { program := "ytogmlcmajecpgaa", sum := "be281647f192df59d5066469201d7fc64dab18c6b0df1ccfc7430aac974abaa5", func := "loop.example/videocodec/laws.FnBlockOf", spec := "fnBlockOf", unfollowed := true, recurses := true, apart := false, narrowed := true }
def FnBlockOfUptoSaid : Prop := fnBlockOfUptoRow.holds Try.pinned (OpenSpec.upto fnBlockOfSpec)

end Rows
end Go.Proofs.Ytogmlcmajecpgaa
