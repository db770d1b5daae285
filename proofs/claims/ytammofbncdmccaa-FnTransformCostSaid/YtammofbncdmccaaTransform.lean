/- Contracts of the transform of a block: the reference's fourfold loop and the program's butterflies. -/
import Derived.Test.YtammofbncdmccaaEnergy
namespace Go.Proofs.Ytammofbncdmccaa
open Go.RowKit

/-- The signs of the Hadamard matrix, listed row by row. -/
def sgL : List Int := [1, 1, 1, 1, 1, 1, -1, -1, 1, -1, -1, 1, 1, -1, 1, -1]
def sg (k : Nat) : Int := sgL.getD k 0
def sgI (i j : Int) : Int := sg (4 * i + j).toNat
theorem sg_pm : ∀ k, k < 16 → sg k = 1 ∨ sg k = -1 := by decide
theorem sgI_pm (i j : Int) (h1 : 0 ≤ i) (h2 : i < 4) (h3 : 0 ≤ j) (h4 : j < 4) : sgI i j = 1 ∨ sgI i j = -1 := sg_pm _ (by omega)

theorem sg_tab : VN 16 sg = #[.int .i64 1, .int .i64 1, .int .i64 1, .int .i64 1, .int .i64 1, .int .i64 1, .int .i64 (-1), .int .i64 (-1), .int .i64 1, .int .i64 (-1), .int .i64 (-1), .int .i64 1, .int .i64 1, .int .i64 (-1), .int .i64 1, .int .i64 (-1)] := by kernel_rfl
theorem l3Sign_any (i j : Int) (w : World) (h1 : 0 ≤ i) (h2 : i < 4) (h3 : 0 ≤ j) (h4 : j < 4) :
    Calls Try.prog 40 #[.int .i64 i, .int .i64 j] w fun e w' => e = .returned (.int .i64 (sgI i j)) ∧ w = w' := by
  obtain ⟨p, hp⟩ : ∃ p : Nat, 4 * i + j = (p : Int) := ⟨(4 * i + j).toNat, by omega⟩
  have hp16 : p < 16 := by omega
  have hi := fun w => run_index16 sg p hp16 w
  rw [sg_tab, ← hp] at hi
  have HV := Lib.hid (show sg p = sgI i j by unfold sgI; rw [hp]; rfl)
  clear hp
  go_enter Try.func40, Try.ntmps40
  go_wp2
  go_ret
  exact ⟨ret_int HV.out, rfl⟩
end Go.Proofs.Ytammofbncdmccaa
