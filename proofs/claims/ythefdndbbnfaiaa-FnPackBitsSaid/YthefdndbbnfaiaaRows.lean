/-
  No cell of these rows narrows 'for every input' (looked for: loops, veiled, ifaces, maps, wideKeys, modest, calm, conditions, laid).
  DERIVED. THE GIVEN ROWS OF THIS SEAT. 5 by the template 'for every input the law returns true; each argument reads behind the call as it read before'; 0 by the template 'total and deterministic' (their statements: YthefdndbbnfaiaaTotals.lean).
  GIVEN WITH THE SEED: the statements are not yours to turn. If you find one false, say at which input.
  Laid BY PROGRAM, IN A SANDBOX (cutbox-rows.mjs): the forced cells as the released guide's own fill.sh prints them over the translation 2ceee68caf566933… (all of the seat's roots in one cut). By AI agents, Wed Nov 11 2026. No macro, syntax, notation, axiom, sorry.
-/
import Derived.Test.YthefdndbbnfaiaaChecked
import GoSem.Claim
import GoSem.ClaimJoined
import GoSem.ClaimMapViews
import Derived.JoinedTies
import Derived.KernelRfl
namespace Go.Proofs.Ythefdndbbnfaiaa
/- THE CELL 'sum', in the pinned program and in every row, IS THE sha256 OF THE DUMP (.gsa) THAT YthefdndbbnfaiaaProg.lean LOADS. Nothing in Lean hashes anything: it is a label: what it is worth is what the hold of that sum in a sandbox is worth. -/
noncomputable def Try.pinned : Pinned := { name := "ythefdndbbnfaiaa", sum := "2ceee68caf566933ea046d545dc61ce6742e0d219bf46f7e649c4618204eb431", checked := Try.checked }
namespace Rows
def none {H : Type} : Left H := { results := [], args := [] }

/-- 'laws.FnExactUnpackBits': WHATEVER THE INPUT: true; the input reads as it did. -/
def fnExactUnpackBitsSpec : ChangeSpec := { name := "fnExactUnpackBits", fn := fun _ => fun
  | [d1, d2] => { results := [.lit (.bool true)], args := [d1, d2] }
  | _ => none }
def fnExactUnpackBitsRow : OpenClaim := { program := "ythefdndbbnfaiaa", sum := "2ceee68caf566933ea046d545dc61ce6742e0d219bf46f7e649c4618204eb431", func := "loop.example/videocodec/laws.FnExactUnpackBits", spec := "fnExactUnpackBits", apart := false }
def FnExactUnpackBitsSaid : Prop := fnExactUnpackBitsRow.holds Try.pinned (OpenSpec.ofChange fnExactUnpackBitsSpec)

/-- ITS FALSE NEIGHBOUR: 'it returns false'. Refute it at one input. -/
def fnExactUnpackBitsWrong : ChangeSpec := { name := "fnExactUnpackBits", fn := fun _ => fun
  | [d1, d2] => { results := [.lit (.bool false)], args := [d1, d2] }
  | _ => none }
def FnExactUnpackBitsWrongFalsely : Prop := fnExactUnpackBitsRow.holds Try.pinned (OpenSpec.ofChange fnExactUnpackBitsWrong)

/-- 'laws.FnExactPackBits': WHATEVER THE INPUT: true; the input reads as it did. -/
def fnExactPackBitsSpec : ChangeSpec := { name := "fnExactPackBits", fn := fun _ => fun
  | [d] => { results := [.lit (.bool true)], args := [d] }
  | _ => none }
def fnExactPackBitsRow : OpenClaim := { program := "ythefdndbbnfaiaa", sum := "2ceee68caf566933ea046d545dc61ce6742e0d219bf46f7e649c4618204eb431", func := "loop.example/videocodec/laws.FnExactPackBits", spec := "fnExactPackBits", apart := false }
def FnExactPackBitsSaid : Prop := fnExactPackBitsRow.holds Try.pinned (OpenSpec.ofChange fnExactPackBitsSpec)

/-- ITS FALSE NEIGHBOUR: 'it returns false'. Refute it at one input. -/
def fnExactPackBitsWrong : ChangeSpec := { name := "fnExactPackBits", fn := fun _ => fun
  | [d] => { results := [.lit (.bool false)], args := [d] }
  | _ => none }
def FnExactPackBitsWrongFalsely : Prop := fnExactPackBitsRow.holds Try.pinned (OpenSpec.ofChange fnExactPackBitsWrong)

/-- 'laws.FnUnpackBits': WHATEVER THE INPUT: true; the input reads as it did. -/
def fnUnpackBitsSpec : ChangeSpec := { name := "fnUnpackBits", fn := fun _ => fun
  | [d] => { results := [.lit (.bool true)], args := [d] }
  | _ => none }
def fnUnpackBitsRow : OpenClaim := { program := "ythefdndbbnfaiaa", sum := "2ceee68caf566933ea046d545dc61ce6742e0d219bf46f7e649c4618204eb431", func := "loop.example/videocodec/laws.FnUnpackBits", spec := "fnUnpackBits", apart := false }
def FnUnpackBitsSaid : Prop := fnUnpackBitsRow.holds Try.pinned (OpenSpec.ofChange fnUnpackBitsSpec)

/-- ITS FALSE NEIGHBOUR: 'it returns false'. Refute it at one input. -/
def fnUnpackBitsWrong : ChangeSpec := { name := "fnUnpackBits", fn := fun _ => fun
  | [d] => { results := [.lit (.bool false)], args := [d] }
  | _ => none }
def FnUnpackBitsWrongFalsely : Prop := fnUnpackBitsRow.holds Try.pinned (OpenSpec.ofChange fnUnpackBitsWrong)

/-- 'laws.FnExactGolombRead': WHATEVER THE INPUT: true; the input reads as it did. -/
def fnExactGolombReadSpec : ChangeSpec := { name := "fnExactGolombRead", fn := fun _ => fun
  | [d1, d2] => { results := [.lit (.bool true)], args := [d1, d2] }
  | _ => none }
def fnExactGolombReadRow : OpenClaim := { program := "ythefdndbbnfaiaa", sum := "2ceee68caf566933ea046d545dc61ce6742e0d219bf46f7e649c4618204eb431", func := "loop.example/videocodec/laws.FnExactGolombRead", spec := "fnExactGolombRead", apart := false }
def FnExactGolombReadSaid : Prop := fnExactGolombReadRow.holds Try.pinned (OpenSpec.ofChange fnExactGolombReadSpec)

/-- ITS FALSE NEIGHBOUR: 'it returns false'. Refute it at one input. -/
def fnExactGolombReadWrong : ChangeSpec := { name := "fnExactGolombRead", fn := fun _ => fun
  | [d1, d2] => { results := [.lit (.bool false)], args := [d1, d2] }
  | _ => none }
def FnExactGolombReadWrongFalsely : Prop := fnExactGolombReadRow.holds Try.pinned (OpenSpec.ofChange fnExactGolombReadWrong)

/-- 'laws.FnPackBits': WHATEVER THE INPUT: true; the input reads as it did. -/
def fnPackBitsSpec : ChangeSpec := { name := "fnPackBits", fn := fun _ => fun
  | [d] => { results := [.lit (.bool true)], args := [d] }
  | _ => none }
def fnPackBitsRow : OpenClaim := { program := "ythefdndbbnfaiaa", sum := "2ceee68caf566933ea046d545dc61ce6742e0d219bf46f7e649c4618204eb431", func := "loop.example/videocodec/laws.FnPackBits", spec := "fnPackBits", apart := false }
def FnPackBitsSaid : Prop := fnPackBitsRow.holds Try.pinned (OpenSpec.ofChange fnPackBitsSpec)

/-- ITS FALSE NEIGHBOUR: 'it returns false'. Refute it at one input. -/
def fnPackBitsWrong : ChangeSpec := { name := "fnPackBits", fn := fun _ => fun
  | [d] => { results := [.lit (.bool false)], args := [d] }
  | _ => none }
def FnPackBitsWrongFalsely : Prop := fnPackBitsRow.holds Try.pinned (OpenSpec.ofChange fnPackBitsWrong)

/- THE SECOND FORM. 'bulk': how many values and letters a reading holds, each counted each time it is reached (what is shared counts as often as it is met; a slice's spare places count too). A statement '..UptoSaid' is the law's where the arguments, and the package variables that the reading takes, are together of bulk at most 1048576: NARROWER than '..Said'. Prove '..Said' where nothing that the law and all that it calls make is longer than what came in: it says more and counts as full. Else prove '..UptoSaid'. A law counts once. -/
mutual
def uptoBulk {H : Type} : DataW H → Nat
  | .lit (.string bytes) => bytes.length + 1
  | .lit _ => 1
  | .nil => 1
  | .ptr d => uptoBulk d + 1
  | .slice elems spare => uptoBulkAll elems + uptoBulkAll spare + 1
  | .agg parts => uptoBulkAll parts + 1
  | .iface _ d => uptoBulk d + 1
  | .map entries => uptoBulkEntries entries + 1
  | .held _ => 1
def uptoBulkAll {H : Type} : List (DataW H) → Nat
  | [] => 0
  | d :: r => uptoBulk d + uptoBulkAll r
def uptoBulkEntries {H : Type} : List (Lit × DataW H) → Nat
  | [] => 0
  | x :: r => uptoBulkEntry x + uptoBulkEntries r
def uptoBulkEntry {H : Type} : Lit × DataW H → Nat
  | (.string bytes, d) => bytes.length + uptoBulk d + 1
  | (_, d) => uptoBulk d + 1
 end
def uptoSmall : (H : Type) → List (DataW H) → Bool := fun _ ds => decide (uptoBulkAll ds ≤ 1048576)
def OpenSpec.upto (s : _root_.Go.ChangeSpec) : _root_.Go.OpenSpec := { _root_.Go.OpenSpec.ofChange s with cond := some uptoSmall }

/-- 'laws.FnExactUnpackBits', WHERE WHAT IT READS IS OF BULK AT MOST 1048576: true; the input reads as it did. -/
def fnExactUnpackBitsUptoRow : OpenClaim := { program := "ythefdndbbnfaiaa", sum := "2ceee68caf566933ea046d545dc61ce6742e0d219bf46f7e649c4618204eb431", func := "loop.example/videocodec/laws.FnExactUnpackBits", spec := "fnExactUnpackBits", apart := false, narrowed := true }
def FnExactUnpackBitsUptoSaid : Prop := fnExactUnpackBitsUptoRow.holds Try.pinned (OpenSpec.upto fnExactUnpackBitsSpec)

/-- 'laws.FnExactPackBits', WHERE WHAT IT READS IS OF BULK AT MOST 1048576: true; the input reads as it did. -/
def fnExactPackBitsUptoRow : OpenClaim := { program := "ythefdndbbnfaiaa", sum := "2ceee68caf566933ea046d545dc61ce6742e0d219bf46f7e649c4618204eb431", func := "loop.example/videocodec/laws.FnExactPackBits", spec := "fnExactPackBits", apart := false, narrowed := true }
def FnExactPackBitsUptoSaid : Prop := fnExactPackBitsUptoRow.holds Try.pinned (OpenSpec.upto fnExactPackBitsSpec)

/-- 'laws.FnUnpackBits', WHERE WHAT IT READS IS OF BULK AT MOST 1048576: true; the input reads as it did. -/
def fnUnpackBitsUptoRow : OpenClaim := { program := "ythefdndbbnfaiaa", sum := "2ceee68caf566933ea046d545dc61ce6742e0d219bf46f7e649c4618204eb431", func := "loop.example/videocodec/laws.FnUnpackBits", spec := "fnUnpackBits", apart := false, narrowed := true }
def FnUnpackBitsUptoSaid : Prop := fnUnpackBitsUptoRow.holds Try.pinned (OpenSpec.upto fnUnpackBitsSpec)

/-- 'laws.FnExactGolombRead', WHERE WHAT IT READS IS OF BULK AT MOST 1048576: true; the input reads as it did. -/
def fnExactGolombReadUptoRow : OpenClaim := { program := "ythefdndbbnfaiaa", sum := "2ceee68caf566933ea046d545dc61ce6742e0d219bf46f7e649c4618204eb431", func := "loop.example/videocodec/laws.FnExactGolombRead", spec := "fnExactGolombRead", apart := false, narrowed := true }
def FnExactGolombReadUptoSaid : Prop := fnExactGolombReadUptoRow.holds Try.pinned (OpenSpec.upto fnExactGolombReadSpec)

/-- 'laws.FnPackBits', WHERE WHAT IT READS IS OF BULK AT MOST 1048576: true; the input reads as it did. -/
def fnPackBitsUptoRow : OpenClaim := { program := "ythefdndbbnfaiaa", sum := "2ceee68caf566933ea046d545dc61ce6742e0d219bf46f7e649c4618204eb431", func := "loop.example/videocodec/laws.FnPackBits", spec := "fnPackBits", apart := false, narrowed := true }
def FnPackBitsUptoSaid : Prop := fnPackBitsUptoRow.holds Try.pinned (OpenSpec.upto fnPackBitsSpec)

end Rows
end Go.Proofs.Ythefdndbbnfaiaa
