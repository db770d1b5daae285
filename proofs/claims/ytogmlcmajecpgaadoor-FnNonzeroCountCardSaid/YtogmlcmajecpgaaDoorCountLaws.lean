/- NonzeroCount of the reference; the walk of the exact law on it. -/
import Derived.Test.YtogmlcmajecpgaaDoorRunIter
namespace Go.Proofs.YtogmlcmajecpgaaDoor
open Go.RowKit

theorem sNonzeroCount_any (b : Nat → Int) (w : World) :
    Calls Tryd.prog 6 #[.agg (VN 16 b)] w fun e w' => e = .returned (.int .i64 (cz b 16)) ∧ Below w.heap.size w w' := by
  have HB := Lib.hid ((Blk.new w 16 23 b).cell)
  go_enter Tryd.func6, Tryd.ntmps6
  go_wp2
  go_loop [3, 4] (fun c i => ∃ k m : Nat, k ≤ 16 ∧ i = .int .i64 k ∧ c = .int .i64 m ∧ Hid (cz b k = m)) (fun _ i => 16 - (intOf i).toNat)
  case atStart => exact ⟨0, 0, by omega, rfl, rfl, Lib.hid rfl⟩
  case round =>
    obtain ⟨k, m, hk, rfl, rfl, HM⟩ := hrel
    have hm : m ≤ k := by have := cz_le b k; rw [HM.out] at this; exact this
    by_cases hlt : k < 16
    · have hi := HB.out k hlt
      by_cases hx : b k = 0
      · have HN := Lib.hid (cz_zero hx)
        have e0 : (b k != 0) = false := by simp [hx]
        clear hx
        go_wp2
        go_round
        case rel => exact ⟨k + 1, m, by omega, by go_num, rfl, Lib.hid (by rw [HN.out, HM.out])⟩
        case measure => simp [intOf]; omega
      · have HN := Lib.hid (cz_one hx)
        have e0 : (b k != 0) = true := by simp [hx]
        clear hx
        go_wp2
        go_round
        case rel => exact ⟨k + 1, m + 1, by omega, by go_num, by go_num, Lib.hid (by rw [HN.out, HM.out])⟩
        case measure => simp [intOf]; omega
    · have HM16 := Lib.hid (show cz b 16 = m by rw [← HM.out, show k = 16 by omega])
      go_wp2
      go_ret
      exact ⟨by rw [HM16.out]; rfl, (Below.refl _ _).alloc (Nat.le_refl _) _⟩
end Go.Proofs.YtogmlcmajecpgaaDoor
