/- NonzeroCount of the reference; the walk of the exact law on it. -/
import Derived.Test.YtogmlcmajecpgaaRunIter
namespace Go.Proofs.Ytogmlcmajecpgaa
open Go.RowKit

theorem sNonzeroCount_any (b : Nat → Int) (w : World) :
    Calls Try.prog 14 #[.agg (VN 16 b)] w fun e w' => e = .returned (.int .i64 (cz b 16)) ∧ Below w.heap.size w w' := by
  have HB := Lib.hid ((Blk.new w 16 29 b).cell)
  go_enter Try.func14, Try.ntmps14
  go_wp2
  go_loop [3, 4] (fun c i => ∃ k m : Nat, k ≤ 16 ∧ i = .int .i64 k ∧ c = .int .i64 m ∧ Hid (cz b k = m)) (fun _ i => 16 - (intOf i).toNat)
  case atStart => exact ⟨0, 0, by omega, rfl, rfl, Lib.hid rfl⟩
  case round =>
    obtain ⟨k, m, hk, rfl, rfl, HM⟩ := hrel
    have hm : m ≤ k := by have := cz_le b k; rw [HM.out] at this; exact this
    by_cases hlt : k < 16
    · have hi := HB.out k hlt
      by_cases hx : b k = 0
      · have HN := Lib.hid (cz_zero hx)
        have e0 : (b k != 0) = false := by simp [hx]
        clear hx
        go_wp2
        go_round
        case rel => exact ⟨k + 1, m, by omega, by go_num, rfl, Lib.hid (by rw [HN.out, HM.out])⟩
        case measure => simp [intOf]; omega
      · have HN := Lib.hid (cz_one hx)
        have e0 : (b k != 0) = true := by simp [hx]
        clear hx
        go_wp2
        go_round
        case rel => exact ⟨k + 1, m + 1, by omega, by go_num, by go_num, Lib.hid (by rw [HN.out, HM.out])⟩
        case measure => simp [intOf]; omega
    · have HM16 := Lib.hid (show cz b 16 = m by rw [← HM.out, show k = 16 by omega])
      go_wp2
      go_ret
      exact ⟨by rw [HM16.out]; rfl, (Below.refl _ _).alloc (Nat.le_refl _) _⟩
theorem FnExactNonzeroCount_walk (b : Nat → Int) (_hb : ∀ k, k < 16 → (Lit.int .i64 (b k)).wf = true) (w : World) :
    Calls Try.prog 4 #[.agg (VN 16 b)] w fun e w' => e = .returned (.bool true) ∧ Below w.heap.size w w' := by
  have h0 := Blk.new w 16 29 b
  have hb0 : Below w.heap.size w (w.alloc (.cells (VN 16 b) 29)) := (Below.refl _ _).alloc (Nat.le_refl _) _
  have hs0 : w.heap.size < (w.alloc (.cells (VN 16 b) 29)).heap.size := by simp
  clear _hb
  obtain ⟨m, hm⟩ : ∃ m, cz b 16 = m := ⟨_, rfl⟩
  have HM := Lib.hid hm; clear hm
  have e0 : ((m : Int) != (m : Int)) = false := by simp
  go_enter Try.func4, Try.ntmps4
  go_wp2_with (refine wpList_load_row rfl 29 _ rfl w.heap.size rfl 29 (VN 16 b) (0, 0) _ (heap_alloc_new _ _) Try.underlying29 rfl (info16 b) ?_)
  refine (toIntA16_any _ _).mono ?_; rintro e w1 ⟨rfl, hb1⟩
  have h1 := h0.below hb1 hs0
  have hs1 := Nat.lt_of_lt_of_le hs0 hb1.size
  have hc1 := hb0.trans (hb1.mono (Nat.le_of_lt hs0))
  go_wp2_with fail
  refine (sNonzeroCount_any _ _).mono ?_; rintro e w2 ⟨rfl, hb2⟩
  rw [HM.out]
  have h2 := h1.below hb2 hs1
  have hs2 := Nat.lt_of_lt_of_le hs1 hb2.size
  have hc2 := hc1.trans (hb2.mono (Nat.le_of_lt hs1))
  go_wp2_with (refine wpList_load_row rfl 29 _ rfl w.heap.size rfl 29 (VN 16 b) (0, 0) _ h2 Try.underlying29 rfl (info16 b) ?_)
  refine (toIntA16_any _ _).mono ?_; rintro e w3 ⟨rfl, hb3⟩
  have hs3 := Nat.lt_of_lt_of_le hs2 hb3.size
  have hc3 := hc2.trans (hb3.mono (Nat.le_of_lt hs2))
  go_wp2_with fail
  refine (iNonzeroCount_any _ _).mono ?_; rintro e w4 ⟨rfl, hb4⟩
  rw [HM.out]
  have hc4 := hc3.trans (hb4.mono (Nat.le_of_lt hs3))
  go_wp2_with fail
  go_ret
  exact ⟨rfl, hc4⟩
end Go.Proofs.Ytogmlcmajecpgaa
