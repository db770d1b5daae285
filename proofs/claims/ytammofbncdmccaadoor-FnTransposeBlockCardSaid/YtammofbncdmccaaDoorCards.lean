/-
  DERIVED. GIVEN WITH THE SEED: THE CARDS: each row of YtammofbncdmccaaDoorRows.lean that lists a variable, with what it lists TIED to the program's text (the seventh form; the later family's looks); each row that meets fmt, with fmt's text TOLD by the authors' own Lean function (tested against real Go, not proved from fmt's source: count such statements apart). THE CARD IS WHAT COUNTS. Prove the row's statement (the work); the ties are given (YtammofbncdmccaaDoorTie.lean); close each card by the builder's one call (the guide's Derived/Test/ToyasCard.lean, 'card_holds'). Laid BY PROGRAM, IN A SANDBOX (cutbox-door.mjs). By AI agents, Wed Nov 11 2026. No macro, syntax, notation, axiom, sorry.
-/
import Derived.Test.YtammofbncdmccaaDoorRows
import GoSem.ClaimSeven
namespace Go.Proofs.YtammofbncdmccaaDoor
namespace Rows

/-- THE TIED CARD OF 'laws.FnCodeBlock'. -/
def fnCodeBlockCard : Claim7 := { stood := { row := fnCodeBlockRow, standIns := [], harness := (true, "e42481a14865958ac7b768745eb2bb07f4da909cd562730eeed3e1f9d5c75aea"), looks := false }, kinds := [], alts := [], laidByText := true, laidKinds := [.data], laidTests := true, laidLooks := .later }
def FnCodeBlockCardSaid : Prop := Claim7.holds Tryd.pinned (.plain (OpenSpec.ofChange fnCodeBlockSpec)) fnCodeBlockCard

/-- THE TIED CARD OF 'laws.FnDecodeBlock'. -/
def fnDecodeBlockCard : Claim7 := { stood := { row := fnDecodeBlockRow, standIns := [], harness := (true, "e42481a14865958ac7b768745eb2bb07f4da909cd562730eeed3e1f9d5c75aea"), looks := false }, kinds := [], alts := [], laidByText := true, laidKinds := [.data], laidTests := true, laidLooks := .later }
def FnDecodeBlockCardSaid : Prop := Claim7.holds Tryd.pinned (.plain (OpenSpec.ofChange fnDecodeBlockSpec)) fnDecodeBlockCard

/-- THE TIED CARD OF 'laws.FnTransposeBlock'. -/
def fnTransposeBlockCard : Claim7 := { stood := { row := fnTransposeBlockRow, standIns := [], harness := (true, "e42481a14865958ac7b768745eb2bb07f4da909cd562730eeed3e1f9d5c75aea"), looks := false }, kinds := [], alts := [], laidByText := true, laidKinds := [.data], laidTests := true, laidLooks := .later }
def FnTransposeBlockCardSaid : Prop := Claim7.holds Tryd.pinned (.plain (OpenSpec.ofChange fnTransposeBlockSpec)) fnTransposeBlockCard

/-- THE SECOND FORM's CARD OF 'laws.FnCodeBlock'. -/
def fnCodeBlockUptoCard : Claim7 := { stood := { row := fnCodeBlockUptoRow, standIns := [], harness := (true, "e42481a14865958ac7b768745eb2bb07f4da909cd562730eeed3e1f9d5c75aea"), looks := false }, kinds := [], alts := [], laidByText := true, laidKinds := [.data], laidTests := true, laidLooks := .later }
def FnCodeBlockUptoCardSaid : Prop := Claim7.holds Tryd.pinned (.plain (OpenSpec.upto fnCodeBlockSpec)) fnCodeBlockUptoCard

/-- THE SECOND FORM's CARD OF 'laws.FnDecodeBlock'. -/
def fnDecodeBlockUptoCard : Claim7 := { stood := { row := fnDecodeBlockUptoRow, standIns := [], harness := (true, "e42481a14865958ac7b768745eb2bb07f4da909cd562730eeed3e1f9d5c75aea"), looks := false }, kinds := [], alts := [], laidByText := true, laidKinds := [.data], laidTests := true, laidLooks := .later }
def FnDecodeBlockUptoCardSaid : Prop := Claim7.holds Tryd.pinned (.plain (OpenSpec.upto fnDecodeBlockSpec)) fnDecodeBlockUptoCard

/-- THE SECOND FORM's CARD OF 'laws.FnTransposeBlock'. -/
def fnTransposeBlockUptoCard : Claim7 := { stood := { row := fnTransposeBlockUptoRow, standIns := [], harness := (true, "e42481a14865958ac7b768745eb2bb07f4da909cd562730eeed3e1f9d5c75aea"), looks := false }, kinds := [], alts := [], laidByText := true, laidKinds := [.data], laidTests := true, laidLooks := .later }
def FnTransposeBlockUptoCardSaid : Prop := Claim7.holds Tryd.pinned (.plain (OpenSpec.upto fnTransposeBlockSpec)) fnTransposeBlockUptoCard
end Rows
end Go.Proofs.YtammofbncdmccaaDoor
