/-
  DERIVED. GIVEN WITH THE SEED: THE CARDS: each row of YtaeeafdnejdocaaDoorRows.lean that lists a variable, with what it lists TIED to the program's text (the seventh form; the later family's looks); each row that meets fmt, with fmt's text TOLD by the authors' own Lean function (tested against real Go, not proved from fmt's source: count such statements apart). THE CARD IS WHAT COUNTS. Prove the row's statement (the work); the ties are given (YtaeeafdnejdocaaDoorTie.lean); close each card by the builder's one call (the guide's Derived/Test/ToyasCard.lean, 'card_holds'). Laid BY PROGRAM, IN A SANDBOX (cutbox-door.mjs). By AI agents, Wed Nov 11 2026. No macro, syntax, notation, axiom, sorry.
-/
import Derived.Test.YtaeeafdnejdocaaDoorRows
import GoSem.ClaimSeven
namespace Go.Proofs.YtaeeafdnejdocaaDoor
namespace Rows

/-- THE TIED CARD OF 'laws.FnExactCodeBlock'. -/
def fnExactCodeBlockCard : Claim7 := { stood := { row := fnExactCodeBlockRow, standIns := [], harness := (true, "2c4d779912b4b1abc65b45631ab2860adf56c5406b64333da23c7a6334e99e08"), looks := false }, kinds := [], alts := [], laidByText := true, laidKinds := [.data], laidTests := true, laidLooks := .later }
def FnExactCodeBlockCardSaid : Prop := Claim7.holds Tryd.pinned (.plain (OpenSpec.ofChange fnExactCodeBlockSpec)) fnExactCodeBlockCard

/-- THE TIED CARD OF 'laws.FnExactDecodeBlock'. -/
def fnExactDecodeBlockCard : Claim7 := { stood := { row := fnExactDecodeBlockRow, standIns := [], harness := (true, "2c4d779912b4b1abc65b45631ab2860adf56c5406b64333da23c7a6334e99e08"), looks := false }, kinds := [], alts := [], laidByText := true, laidKinds := [.data], laidTests := true, laidLooks := .later }
def FnExactDecodeBlockCardSaid : Prop := Claim7.holds Tryd.pinned (.plain (OpenSpec.ofChange fnExactDecodeBlockSpec)) fnExactDecodeBlockCard

/-- THE SECOND FORM's CARD OF 'laws.FnExactCodeBlock'. -/
def fnExactCodeBlockUptoCard : Claim7 := { stood := { row := fnExactCodeBlockUptoRow, standIns := [], harness := (true, "2c4d779912b4b1abc65b45631ab2860adf56c5406b64333da23c7a6334e99e08"), looks := false }, kinds := [], alts := [], laidByText := true, laidKinds := [.data], laidTests := true, laidLooks := .later }
def FnExactCodeBlockUptoCardSaid : Prop := Claim7.holds Tryd.pinned (.plain (OpenSpec.upto fnExactCodeBlockSpec)) fnExactCodeBlockUptoCard

/-- THE SECOND FORM's CARD OF 'laws.FnExactDecodeBlock'. -/
def fnExactDecodeBlockUptoCard : Claim7 := { stood := { row := fnExactDecodeBlockUptoRow, standIns := [], harness := (true, "2c4d779912b4b1abc65b45631ab2860adf56c5406b64333da23c7a6334e99e08"), looks := false }, kinds := [], alts := [], laidByText := true, laidKinds := [.data], laidTests := true, laidLooks := .later }
def FnExactDecodeBlockUptoCardSaid : Prop := Claim7.holds Tryd.pinned (.plain (OpenSpec.upto fnExactDecodeBlockSpec)) fnExactDecodeBlockUptoCard
end Rows
end Go.Proofs.YtaeeafdnejdocaaDoor
