/-
  DERIVED. GIVEN WITH THE SEED: THE CARDS: each row of YtogmlcmajecpgaaDoorRows.lean that lists a variable, with what it lists TIED to the program's text (the seventh form; the later family's looks); each row that meets fmt, with fmt's text TOLD by the authors' own Lean function (tested against real Go, not proved from fmt's source: count such statements apart). THE CARD IS WHAT COUNTS. Prove the row's statement (the work); the ties are given (YtogmlcmajecpgaaDoorTie.lean); close each card by the builder's one call (the guide's Derived/Test/ToyasCard.lean, 'card_holds'). Laid BY PROGRAM, IN A SANDBOX (cutbox-door.mjs). By AI agents, Wed Nov 11 2026. No macro, syntax, notation, axiom, sorry.
-/
import Derived.Test.YtogmlcmajecpgaaDoorRows
import GoSem.ClaimSeven
namespace Go.Proofs.YtogmlcmajecpgaaDoor
namespace Rows

/-- THE TIED CARD OF 'laws.FnNonzeroCount'. -/
def fnNonzeroCountCard : Claim7 := { stood := { row := fnNonzeroCountRow, standIns := [], harness := (true, "3bdd7d9b0cd710395b7da09ef0f7351246243ad835957c03c208ebd83ae23d01"), looks := false }, kinds := [], alts := [], laidByText := true, laidKinds := [.data], laidTests := true, laidLooks := .later }
def FnNonzeroCountCardSaid : Prop := Claim7.holds Tryd.pinned (.plain (OpenSpec.ofChange fnNonzeroCountSpec)) fnNonzeroCountCard

/-- THE SECOND FORM's CARD OF 'laws.FnNonzeroCount'. -/
def fnNonzeroCountUptoCard : Claim7 := { stood := { row := fnNonzeroCountUptoRow, standIns := [], harness := (true, "3bdd7d9b0cd710395b7da09ef0f7351246243ad835957c03c208ebd83ae23d01"), looks := false }, kinds := [], alts := [], laidByText := true, laidKinds := [.data], laidTests := true, laidLooks := .later }
def FnNonzeroCountUptoCardSaid : Prop := Claim7.holds Tryd.pinned (.plain (OpenSpec.upto fnNonzeroCountSpec)) fnNonzeroCountUptoCard
end Rows
end Go.Proofs.YtogmlcmajecpgaaDoor
