/- Contracts of BlockEnergy (program and reference), of the comparison of two blocks, and the walk of the exact law. -/
import Derived.Test.YtjogdkeoadkbnaaBlock
namespace Go.Proofs.Ytjogdkeoadkbnaa
open Go.RowKit

/-- The sum of the squares of the first k numbers. -/
def enerTo (b : Nat → Int) : Nat → Int
  | 0 => 0
  | k + 1 => enerTo b k + b k * b k
def energyI (b : Nat → Int) : Int := if okB b 4080 then enerTo b 16 else -1
theorem sq_bd (x : Int) (h1 : -4080 ≤ x) (h2 : x ≤ 4080) : 0 ≤ x * x ∧ x * x ≤ 16646400 := by
  have h : x.natAbs ≤ 4080 := by omega
  have e : x * x = ((x.natAbs * x.natAbs : Nat) : Int) := by rw [Int.natAbs_mul_self]
  have := Nat.mul_le_mul h h
  omega
theorem ener_bd (b : Nat → Int) : ∀ k, (∀ j, j < k → -4080 ≤ b j ∧ b j ≤ 4080) → 0 ≤ enerTo b k ∧ enerTo b k ≤ 16646400 * k
  | 0, _ => by simp [enerTo]
  | k + 1, h => by
    have a := ener_bd b k (fun j hj => h j (by omega))
    have c := sq_bd (b k) (h k (by omega)).1 (h k (by omega)).2
    simp only [enerTo]
    omega

theorem eqIntA16_yes (b c : Nat → Int) (w : World) (h : ∀ k, k < 16 → b k = c k) :
    Calls Try.prog 37 #[.agg (VN 16 b), .agg (VN 16 c)] w fun e w' => e = .returned (.bool true) ∧ Below w.heap.size w w' := by
  rw [← VN_congr h]
  clear h
  go_enter Try.func37, Try.ntmps37
  go_wp2
  go_loopw [5] (fun i wr => ∃ k : Nat, k ≤ 16 ∧ i = .int .i64 k ∧ Blk wr w.heap.size 16 49 b ∧ Blk wr (w.heap.size + 1) 16 49 b ∧ Below w.heap.size w wr) (fun i _ => 16 - (intOf i).toNat)
  case atStart => exact ⟨0, by omega, rfl, (Blk.new w 16 _ b).alloc _, Blk.new' (by simp), ((Below.refl _ _).alloc (Nat.le_refl _) _).alloc (by simp) _⟩
  case round =>
    obtain ⟨k, hk, rfl, hA, hB, hbel⟩ := hrel
    by_cases hlt : k < 16
    · have c1 := hA.cell k hlt
      have c2 := hB.cell k hlt
      have hk1 : (k : Int) < 16 := by omega
      have hk0 : (0 : Int) ≤ k := by omega
      go_wp2_with fail
      go_quiet (fail)
      go_wp2
      go_roundw
      case rel => exact ⟨k + 1, by omega, by go_num, hA.drewN _, hB.drewN _, below_drewN hbel _⟩
      case measure => simp [intOf]; omega
    · go_wp2
      go_ret
      exact ⟨rfl, hbel⟩

end Go.Proofs.Ytjogdkeoadkbnaa
