/- Contracts of BlockEnergy (program and reference), of the comparison of two blocks, and the walk of the exact law. -/
import Derived.Test.YtogmlcmajecpgaaDoorBlock
namespace Go.Proofs.YtogmlcmajecpgaaDoor
open Go.RowKit

/-- The sum of the squares of the first k numbers. -/
def enerTo (b : Nat → Int) : Nat → Int
  | 0 => 0
  | k + 1 => enerTo b k + b k * b k
def energyI (b : Nat → Int) : Int := if okB b 4080 then enerTo b 16 else -1
theorem sq_bd (x : Int) (h1 : -4080 ≤ x) (h2 : x ≤ 4080) : 0 ≤ x * x ∧ x * x ≤ 16646400 := by
  have h : x.natAbs ≤ 4080 := by omega
  have e : x * x = ((x.natAbs * x.natAbs : Nat) : Int) := by rw [Int.natAbs_mul_self]
  have := Nat.mul_le_mul h h
  omega
theorem ener_bd (b : Nat → Int) : ∀ k, (∀ j, j < k → -4080 ≤ b j ∧ b j ≤ 4080) → 0 ≤ enerTo b k ∧ enerTo b k ≤ 16646400 * k
  | 0, _ => by simp [enerTo]
  | k + 1, h => by
    have a := ener_bd b k (fun j hj => h j (by omega))
    have c := sq_bd (b k) (h k (by omega)).1 (h k (by omega)).2
    simp only [enerTo]
    omega

end Go.Proofs.YtogmlcmajecpgaaDoor
