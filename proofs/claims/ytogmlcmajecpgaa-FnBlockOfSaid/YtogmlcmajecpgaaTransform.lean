/- Contracts of the transform of a block: the reference's fourfold loop and the program's butterflies. -/
import Derived.Test.YtogmlcmajecpgaaEnergy
namespace Go.Proofs.Ytogmlcmajecpgaa
open Go.RowKit

/-- The signs of the Hadamard matrix, listed row by row. -/
def sgL : List Int := [1, 1, 1, 1, 1, 1, -1, -1, 1, -1, -1, 1, 1, -1, 1, -1]
def sg (k : Nat) : Int := sgL.getD k 0
def sgI (i j : Int) : Int := sg (4 * i + j).toNat
theorem sg_pm : ∀ k, k < 16 → sg k = 1 ∨ sg k = -1 := by decide
theorem sgI_pm (i j : Int) (h1 : 0 ≤ i) (h2 : i < 4) (h3 : 0 ≤ j) (h4 : j < 4) : sgI i j = 1 ∨ sgI i j = -1 := sg_pm _ (by omega)

end Go.Proofs.Ytogmlcmajecpgaa
