/- Contracts of TransformCost, of the program and of the reference, and the walk of the exact law. -/
import Derived.Test.YtammofbncdmccaaDoorForward
import Derived.Test.YtammofbncdmccaaDoorSamples
import Derived.BigRegion
import Derived.Deep.MidRow
import Derived.Deep.RegionHeld3
namespace Go.Proofs.YtammofbncdmccaaDoor
open Go.RowKit

def asumTo (c : Nat → Int) : Nat → Int
  | 0 => 0
  | k + 1 => asumTo c k + absI (c k)
def diffB (a b : Nat → Int) (i : Nat) : Int := a i - b i
def costI (a b : Nat → Int) : Int := if smpB a 16 && smpB b 16 then asumTo (appI (diffB a b)) 16 / 4 else -1
theorem asum_bd {c : Nat → Int} : ∀ k, (∀ j, j < k → -4080 ≤ c j ∧ c j ≤ 4080) → 0 ≤ asumTo c k ∧ asumTo c k ≤ 4080 * k
  | 0, _ => by simp [asumTo]
  | k + 1, h => by
    have a := asum_bd k (fun j hj => h j (by omega))
    have b := h k (by omega)
    simp only [asumTo, absI]
    omega
theorem asum_congr {c d : Nat → Int} : ∀ n, (∀ k, k < n → c k = d k) → asumTo c n = asumTo d n
  | 0, _ => rfl
  | n + 1, h => by simp only [asumTo]; rw [asum_congr n (fun k hk => h k (by omega)), h n (by omega)]
theorem diff_bd {a b : Nat → Int} (ha : smpB a 16 = true) (hb : smpB b 16 = true) : ∀ k, k < 16 → -255 ≤ diffB a b k ∧ diffB a b k ≤ 255 := fun k hk => by
  have := smpB_out ha k hk
  have := smpB_out hb k hk
  unfold diffB
  omega

end Go.Proofs.YtammofbncdmccaaDoor
