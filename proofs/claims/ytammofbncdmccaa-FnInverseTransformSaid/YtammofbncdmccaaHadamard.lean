/- The program's transform of a block of sixteen numbers. -/
import Derived.Test.YtammofbncdmccaaButter
namespace Go.Proofs.Ytammofbncdmccaa
open Go.RowKit

theorem bfly_bd {b : Nat → Int} {M : Int} (h : ∀ k, k < 16 → -M ≤ b k ∧ b k ≤ M) {p s : Nat} (hp : p + 3 * s < 16) : ∀ k, k < 16 → -(4 * M) ≤ bfly b p s k ∧ bfly b p s k ≤ 4 * M := by
  intro k hk
  have h0 := h p (by omega)
  have h1 := h (p + s) (by omega)
  have h2 := h (p + 2 * s) (by omega)
  have h3 := h (p + 3 * s) (by omega)
  have h4 := h k hk
  unfold bfly
  repeat' split
  all_goals omega
def had1 (b : Nat → Int) : Nat → Nat → Int
  | 0 => b
  | k + 1 => bfly (had1 b k) (4 * k) 1
def had2 (b : Nat → Int) : Nat → Nat → Int
  | 0 => had1 b 4
  | k + 1 => bfly (had2 b k) k 4
/-- What the program's transform makes of a block. -/
def hadI (b : Nat → Int) : Nat → Int := had2 b 4
theorem had1_bd {b : Nat → Int} (h : ∀ k, k < 16 → -4080 ≤ b k ∧ b k ≤ 4080) : ∀ n, n ≤ 4 → ∀ k, k < 16 → -(4080 * 4 ^ n : Int) ≤ had1 b n k ∧ had1 b n k ≤ 4080 * 4 ^ n
  | 0, _ => fun k hk => by simpa [had1] using h k hk
  | n + 1, hn => fun k hk => by
    have := bfly_bd (had1_bd h n (by omega)) (p := 4 * n) (s := 1) (by omega) k hk
    have e : (4 : Int) ^ (n + 1) = 4 * 4 ^ n := by rw [Int.pow_succ, Int.mul_comm]
    rw [e]
    simp only [had1]
    omega
theorem had2_bd {b : Nat → Int} (h : ∀ k, k < 16 → -4080 ≤ b k ∧ b k ≤ 4080) : ∀ n, n ≤ 4 → ∀ k, k < 16 → -(1044480 * 4 ^ n : Int) ≤ had2 b n k ∧ had2 b n k ≤ 1044480 * 4 ^ n
  | 0, _ => fun k hk => by simpa [had2] using had1_bd h 4 (by omega) k hk
  | n + 1, hn => fun k hk => by
    have := bfly_bd (had2_bd h n (by omega)) (p := n) (s := 4) (by omega) k hk
    have e : (4 : Int) ^ (n + 1) = 4 * 4 ^ n := by rw [Int.pow_succ, Int.mul_comm]
    rw [e]
    simp only [had2]
    omega
theorem pow4_le : ∀ n : Nat, n ≤ 4 → (4 : Int) ^ n ≤ 256 := by decide
theorem hadamard_any (b : Nat → Int) (w : World) (hb : ∀ k, k < 16 → -4080 ≤ b k ∧ b k ≤ 4080) :
    Calls Try.prog 27 #[.agg (VN 16 b)] w fun e w' => e = .returned (.agg (VN 16 (hadI b))) ∧ Below w.heap.size w w' := by
  have HB := Lib.hid hb; clear hb
  go_enter Try.func27, Try.ntmps27
  go_wp2
  go_loopw [5] (fun i wr => ∃ k : Nat, k ≤ 4 ∧ i = .int .i64 k ∧ Blk wr w.heap.size 16 23 (had1 b k) ∧ Blk wr (w.heap.size + 1) 16 23 (fun _ => 0) ∧ Below w.heap.size w wr) (fun i _ => 4 - (intOf i).toNat)
  case atStart =>
    refine ⟨0, by omega, rfl, (Blk.new w 16 _ b).alloc _, ?_, ((Below.refl _ _).alloc (Nat.le_refl _) _).alloc (by simp) _⟩
    rw [← zero16]
    exact Blk.new' (by simp)
  case round =>
    obtain ⟨k, hk, rfl, hA, hZ, hbel⟩ := hrel
    by_cases hlt : k < 4
    · have hbd := had1_bd HB.out k hk
      have hp := pow4_le k hk
      have HBD := Lib.hid (show ∀ j, j < 16 → -1000000000 ≤ had1 b k j ∧ had1 b k j ≤ 1000000000 from fun j hj => by have := hbd j hj; omega)
      clear hbd hp
      go_wp2_with fail
      rw [show (4 * (k : Int)) = ((4 * k : Nat) : Int) from by omega]
      refine (butterflies_any (had1 b k) w.heap.size (4 * k) 1 wr hA (by omega) (by omega) HBD.out).mono ?_
      rintro e w1 ⟨rfl, hB1, ho⟩
      go_wp2_with fail
      go_roundw
      case rel => exact ⟨k + 1, by omega, by go_num, hB1, ho.blk hZ (by omega), hbel.trans (ho.below (Nat.le_refl _))⟩
      case measure => simp [intOf]; omega
    · have hA4 : Blk wr w.heap.size 16 23 (had1 b 4) := by
        have e : k = 4 := by omega
        rw [← e]; exact hA
      go_wp2
      go_loopw [12] (fun i wr => ∃ k : Nat, k ≤ 4 ∧ i = .int .i64 k ∧ Blk wr w.heap.size 16 23 (had2 b k) ∧ Blk wr (w.heap.size + 1) 16 23 (fun _ => 0) ∧ Below w.heap.size w wr) (fun i _ => 4 - (intOf i).toNat)
      case atStart => exact ⟨0, by omega, rfl, hA4, hZ, hbel⟩
      case round =>
        clear hA4 hA hZ hbel
        obtain ⟨k, hk, rfl, hA, hZ, hbel⟩ := hrel
        by_cases hlt : k < 4
        · have hbd := had2_bd HB.out k hk
          have hp := pow4_le k hk
          have HBD := Lib.hid (show ∀ j, j < 16 → -1000000000 ≤ had2 b k j ∧ had2 b k j ≤ 1000000000 from fun j hj => by have := hbd j hj; omega)
          clear hbd hp
          go_wp2_with fail
          refine (butterflies_any (had2 b k) w.heap.size k 4 wr hA (by omega) (by omega) HBD.out).mono ?_
          rintro e w1 ⟨rfl, hB1, ho⟩
          go_wp2_with fail
          go_roundw
          case rel => exact ⟨k + 1, by omega, by go_num, hB1, ho.blk hZ (by omega), hbel.trans (ho.below (Nat.le_refl _))⟩
          case measure => simp [intOf]; omega
        · obtain rfl : k = 4 := by omega
          go_wp2_with (first | (refine wpList_load_row rfl 23 _ rfl w.heap.size rfl 23 (VN 16 (hadI b)) (0, 0) _ hA Try.underlying23 rfl (info16 _) ?_) | (refine wpList_store_row rfl 23 _ _ rfl (w.heap.size + 1) (VN 16 (hadI b)) rfl rfl 23 (VN 16 fun _ => 0) hZ (info16 _) (by rw [VN_size, VN_size]) (VN_one _ _) ?_))
          refine bodyPost_ret (v := .agg (VN 16 (hadI b))) (results_cell_row Try.results27 _ _ (w.heap.size + 1) 23 _ (0, 0) _ rfl (hZ.setRow _) Try.underlying23 rfl (info16 _)) rfl ⟨rfl, below_setRow hbel (by omega) _⟩
end Go.Proofs.Ytammofbncdmccaa
