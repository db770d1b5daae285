/- The program's butterflies on four numbers of a block in memory. -/
import Derived.Test.YtogmlcmajecpgaaTransform
import Derived.Test.YtogmlcmajecpgaaMem
import Derived.BigRegion
import Derived.RegionTactic
namespace Go.Proofs.Ytogmlcmajecpgaa
open Go.RowKit

theorem Only.blk {g g' n : Nat} {t : TypeId} {b : Nat → Int} {w w' : World} (h : Only g w w') (hb : Blk w g' n t b) (hg : g' ≠ g) : Blk w' g' n t b := (h.block g' hg).trans hb

/-- What butterflies makes of a block. -/
def bfly (b : Nat → Int) (at' step : Nat) (i : Nat) : Int :=
  if i = at' then b at' + b (at' + step) + b (at' + 2 * step) + b (at' + 3 * step)
  else if i = at' + step then b at' + b (at' + step) - b (at' + 2 * step) - b (at' + 3 * step)
  else if i = at' + 2 * step then b at' - b (at' + step) - b (at' + 2 * step) + b (at' + 3 * step)
  else if i = at' + 3 * step then b at' - b (at' + step) + b (at' + 2 * step) - b (at' + 3 * step)
  else b i

end Go.Proofs.Ytogmlcmajecpgaa
