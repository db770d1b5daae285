/-
  DERIVED. GIVEN WITH THE SEED: THE CARDS: each row of YthehnbdkeecibaaDoorRows.lean that lists a variable, with what it lists TIED to the program's text (the seventh form; the later family's looks); each row that meets fmt, with fmt's text TOLD by the authors' own Lean function (tested against real Go, not proved from fmt's source: count such statements apart). THE CARD IS WHAT COUNTS. Prove the row's statement (the work); the ties are given (YthehnbdkeecibaaDoorTie.lean); close each card by the builder's one call (the guide's Derived/Test/ToyasCard.lean, 'card_holds'). Laid BY PROGRAM, IN A SANDBOX (cutbox-door.mjs). By AI agents, Wed Nov 11 2026. No macro, syntax, notation, axiom, sorry.
-/
import Derived.Test.YthehnbdkeecibaaDoorRows
import GoSem.ClaimSeven
namespace Go.Proofs.YthehnbdkeecibaaDoor
namespace Rows

/-- THE TIED CARD OF 'laws.FnExactQuantStep'. -/
def fnExactQuantStepCard : Claim7 := { stood := { row := fnExactQuantStepRow, standIns := [], harness := (true, "2a5739a62ad2a8300c0664fb6efce750d691072fe5fad49f3ba0936d45d274aa"), looks := false }, kinds := [], alts := [], laidByText := true, laidKinds := [.data], laidTests := true, laidLooks := .later }
def FnExactQuantStepCardSaid : Prop := Claim7.holds Tryd.pinned (.plain (OpenSpec.ofChange fnExactQuantStepSpec)) fnExactQuantStepCard

/-- THE TIED CARD OF 'laws.FnExactDequantize'. -/
def fnExactDequantizeCard : Claim7 := { stood := { row := fnExactDequantizeRow, standIns := [], harness := (true, "2a5739a62ad2a8300c0664fb6efce750d691072fe5fad49f3ba0936d45d274aa"), looks := false }, kinds := [], alts := [], laidByText := true, laidKinds := [.data], laidTests := true, laidLooks := .later }
def FnExactDequantizeCardSaid : Prop := Claim7.holds Tryd.pinned (.plain (OpenSpec.ofChange fnExactDequantizeSpec)) fnExactDequantizeCard

/-- THE TIED CARD OF 'laws.FnExactQuantize'. -/
def fnExactQuantizeCard : Claim7 := { stood := { row := fnExactQuantizeRow, standIns := [], harness := (true, "2a5739a62ad2a8300c0664fb6efce750d691072fe5fad49f3ba0936d45d274aa"), looks := false }, kinds := [], alts := [], laidByText := true, laidKinds := [.data], laidTests := true, laidLooks := .later }
def FnExactQuantizeCardSaid : Prop := Claim7.holds Tryd.pinned (.plain (OpenSpec.ofChange fnExactQuantizeSpec)) fnExactQuantizeCard

/-- THE TIED CARD OF 'laws.FnQuantStep'. -/
def fnQuantStepCard : Claim7 := { stood := { row := fnQuantStepRow, standIns := [], harness := (true, "2a5739a62ad2a8300c0664fb6efce750d691072fe5fad49f3ba0936d45d274aa"), looks := false }, kinds := [], alts := [], laidByText := true, laidKinds := [.data], laidTests := true, laidLooks := .later }
def FnQuantStepCardSaid : Prop := Claim7.holds Tryd.pinned (.plain (OpenSpec.ofChange fnQuantStepSpec)) fnQuantStepCard

/-- THE TIED CARD OF 'laws.FnDequantize'. -/
def fnDequantizeCard : Claim7 := { stood := { row := fnDequantizeRow, standIns := [], harness := (true, "2a5739a62ad2a8300c0664fb6efce750d691072fe5fad49f3ba0936d45d274aa"), looks := false }, kinds := [], alts := [], laidByText := true, laidKinds := [.data], laidTests := true, laidLooks := .later }
def FnDequantizeCardSaid : Prop := Claim7.holds Tryd.pinned (.plain (OpenSpec.ofChange fnDequantizeSpec)) fnDequantizeCard

/-- THE TIED CARD OF 'laws.FnQuantize'. -/
def fnQuantizeCard : Claim7 := { stood := { row := fnQuantizeRow, standIns := [], harness := (true, "2a5739a62ad2a8300c0664fb6efce750d691072fe5fad49f3ba0936d45d274aa"), looks := false }, kinds := [], alts := [], laidByText := true, laidKinds := [.data], laidTests := true, laidLooks := .later }
def FnQuantizeCardSaid : Prop := Claim7.holds Tryd.pinned (.plain (OpenSpec.ofChange fnQuantizeSpec)) fnQuantizeCard

/-- THE SECOND FORM's CARD OF 'laws.FnExactQuantStep'. -/
def fnExactQuantStepUptoCard : Claim7 := { stood := { row := fnExactQuantStepUptoRow, standIns := [], harness := (true, "2a5739a62ad2a8300c0664fb6efce750d691072fe5fad49f3ba0936d45d274aa"), looks := false }, kinds := [], alts := [], laidByText := true, laidKinds := [.data], laidTests := true, laidLooks := .later }
def FnExactQuantStepUptoCardSaid : Prop := Claim7.holds Tryd.pinned (.plain (OpenSpec.upto fnExactQuantStepSpec)) fnExactQuantStepUptoCard

/-- THE SECOND FORM's CARD OF 'laws.FnExactDequantize'. -/
def fnExactDequantizeUptoCard : Claim7 := { stood := { row := fnExactDequantizeUptoRow, standIns := [], harness := (true, "2a5739a62ad2a8300c0664fb6efce750d691072fe5fad49f3ba0936d45d274aa"), looks := false }, kinds := [], alts := [], laidByText := true, laidKinds := [.data], laidTests := true, laidLooks := .later }
def FnExactDequantizeUptoCardSaid : Prop := Claim7.holds Tryd.pinned (.plain (OpenSpec.upto fnExactDequantizeSpec)) fnExactDequantizeUptoCard

/-- THE SECOND FORM's CARD OF 'laws.FnExactQuantize'. -/
def fnExactQuantizeUptoCard : Claim7 := { stood := { row := fnExactQuantizeUptoRow, standIns := [], harness := (true, "2a5739a62ad2a8300c0664fb6efce750d691072fe5fad49f3ba0936d45d274aa"), looks := false }, kinds := [], alts := [], laidByText := true, laidKinds := [.data], laidTests := true, laidLooks := .later }
def FnExactQuantizeUptoCardSaid : Prop := Claim7.holds Tryd.pinned (.plain (OpenSpec.upto fnExactQuantizeSpec)) fnExactQuantizeUptoCard

/-- THE SECOND FORM's CARD OF 'laws.FnQuantStep'. -/
def fnQuantStepUptoCard : Claim7 := { stood := { row := fnQuantStepUptoRow, standIns := [], harness := (true, "2a5739a62ad2a8300c0664fb6efce750d691072fe5fad49f3ba0936d45d274aa"), looks := false }, kinds := [], alts := [], laidByText := true, laidKinds := [.data], laidTests := true, laidLooks := .later }
def FnQuantStepUptoCardSaid : Prop := Claim7.holds Tryd.pinned (.plain (OpenSpec.upto fnQuantStepSpec)) fnQuantStepUptoCard

/-- THE SECOND FORM's CARD OF 'laws.FnDequantize'. -/
def fnDequantizeUptoCard : Claim7 := { stood := { row := fnDequantizeUptoRow, standIns := [], harness := (true, "2a5739a62ad2a8300c0664fb6efce750d691072fe5fad49f3ba0936d45d274aa"), looks := false }, kinds := [], alts := [], laidByText := true, laidKinds := [.data], laidTests := true, laidLooks := .later }
def FnDequantizeUptoCardSaid : Prop := Claim7.holds Tryd.pinned (.plain (OpenSpec.upto fnDequantizeSpec)) fnDequantizeUptoCard

/-- THE SECOND FORM's CARD OF 'laws.FnQuantize'. -/
def fnQuantizeUptoCard : Claim7 := { stood := { row := fnQuantizeUptoRow, standIns := [], harness := (true, "2a5739a62ad2a8300c0664fb6efce750d691072fe5fad49f3ba0936d45d274aa"), looks := false }, kinds := [], alts := [], laidByText := true, laidKinds := [.data], laidTests := true, laidLooks := .later }
def FnQuantizeUptoCardSaid : Prop := Claim7.holds Tryd.pinned (.plain (OpenSpec.upto fnQuantizeSpec)) fnQuantizeUptoCard
end Rows
end Go.Proofs.YthehnbdkeecibaaDoor
