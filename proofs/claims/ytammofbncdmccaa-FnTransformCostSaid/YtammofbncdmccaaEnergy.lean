/- Contracts of BlockEnergy (program and reference), of the comparison of two blocks, and the walk of the exact law. -/
import Derived.Test.YtammofbncdmccaaBlock
namespace Go.Proofs.Ytammofbncdmccaa
open Go.RowKit

/-- The sum of the squares of the first k numbers. -/
def enerTo (b : Nat → Int) : Nat → Int
  | 0 => 0
  | k + 1 => enerTo b k + b k * b k
def energyI (b : Nat → Int) : Int := if okB b 4080 then enerTo b 16 else -1
theorem sq_bd (x : Int) (h1 : -4080 ≤ x) (h2 : x ≤ 4080) : 0 ≤ x * x ∧ x * x ≤ 16646400 := by
  have h : x.natAbs ≤ 4080 := by omega
  have e : x * x = ((x.natAbs * x.natAbs : Nat) : Int) := by rw [Int.natAbs_mul_self]
  have := Nat.mul_le_mul h h
  omega
theorem ener_bd (b : Nat → Int) : ∀ k, (∀ j, j < k → -4080 ≤ b j ∧ b j ≤ 4080) → 0 ≤ enerTo b k ∧ enerTo b k ≤ 16646400 * k
  | 0, _ => by simp [enerTo]
  | k + 1, h => by
    have a := ener_bd b k (fun j hj => h j (by omega))
    have c := sq_bd (b k) (h k (by omega)).1 (h k (by omega)).2
    simp only [enerTo]
    omega

theorem iBlockEnergy_any (b : Nat → Int) (w : World) :
    Calls Try.prog 9 #[.agg (VN 16 b)] w fun e w' => e = .returned (.int .i64 (energyI b)) ∧ Below w.heap.size w w' := by
  have HI := Lib.hid (run_index16 b)
  go_enter Try.func9, Try.ntmps9
  go_wp2_with (refine wpList_load_row rfl 23 _ rfl w.heap.size rfl 23 (VN 16 b) (0, 0) _ (heap_alloc_new _ _) Try.underlying23 rfl (info16 b) ?_)
  refine (blockWithin_any _ _ _ (by omega) (by omega)).mono ?_; rintro e w1 ⟨rfl, hb⟩
  have hB := (Blk.new w 16 23 b).below hb (by simp)
  by_cases hok : okB b 4080 = true
  · have HO := Lib.hid (okB_out hok)
    have HE := Lib.hid (show energyI b = enerTo b 16 by unfold energyI; rw [if_pos hok])
    go_wp2_with (refine wpList_load_row rfl 23 _ rfl w.heap.size rfl 23 (VN 16 b) (0, 0) _ hB Try.underlying23 rfl (info16 b) ?_)
    go_loop [3, 10] (fun s i => ∃ k : Nat, k ≤ 16 ∧ i = .int .i64 k ∧ s = .int .i64 (enerTo b k)) (fun _ i => 16 - (intOf i).toNat)
    case atStart => exact ⟨0, by omega, rfl, rfl⟩
    case round =>
      obtain ⟨k, hk, rfl, rfl⟩ := hrel
      have hen := ener_bd b k (fun j hj => HO.out j (by omega))
      by_cases hlt : k < 16
      · have hi := HI.out k hlt
        have hsq := sq_bd (b k) (HO.out k hlt).1 (HO.out k hlt).2
        go_wp2
        go_round
        case rel => exact ⟨k + 1, by omega, by go_num, rfl⟩
        case measure => simp [intOf]; omega
      · obtain rfl : k = 16 := by omega
        go_wp2
        go_ret
        exact ⟨ret_int HE.out.symm, ((Below.refl _ _).alloc (Nat.le_refl _) _).trans (hb.mono (by simp))⟩
  · have hok : okB b 4080 = false := by simpa using hok
    have HE := Lib.hid (show energyI b = -1 by unfold energyI; rw [if_neg (by simp [hok])])
    go_wp2
    go_ret
    exact ⟨ret_int HE.out.symm, ((Below.refl _ _).alloc (Nat.le_refl _) _).trans (hb.mono (by simp))⟩

theorem sBlockEnergy_any (b : Nat → Int) (w : World) :
    Calls Try.prog 10 #[.agg (VN 16 b)] w fun e w' => e = .returned (.int .i64 (energyI b)) ∧ Below w.heap.size w w' := by
  go_enter Try.func10, Try.ntmps10
  go_wp2_with (refine wpList_load_row rfl 23 _ rfl w.heap.size rfl 23 (VN 16 b) (0, 0) _ (heap_alloc_new _ _) Try.underlying23 rfl (info16 b) ?_)
  refine (l3Ok_any _ _ _ (by omega) (by omega)).mono ?_; rintro e w1 ⟨rfl, hb⟩
  have hB := (Blk.new w 16 23 b).below hb (by simp)
  have hbw := ((Below.refl w.heap.size w).alloc (Nat.le_refl _) (.cells (VN 16 b) 23)).trans (hb.mono (by simp))
  by_cases hok : okB b 4080 = true
  · have HO := Lib.hid (okB_out hok)
    have HE := Lib.hid (show energyI b = enerTo b 16 by unfold energyI; rw [if_pos hok])
    go_wp2
    go_loopw [3, 4] (fun s i wr => ∃ k : Nat, k ≤ 16 ∧ i = .int .i64 k ∧ s = .int .i64 (enerTo b k) ∧ Blk wr w.heap.size 16 23 b ∧ Below w.heap.size w wr) (fun _ i _ => 16 - (intOf i).toNat)
    case atStart => exact ⟨0, by omega, rfl, rfl, hB, hbw⟩
    case round =>
      obtain ⟨k, hk, rfl, rfl, hA, hbel⟩ := hrel
      clear hB hb hbw
      have hen := ener_bd b k (fun j hj => HO.out j (by omega))
      by_cases hlt : k < 16
      · have hsq := sq_bd (b k) (HO.out k hlt).1 (HO.out k hlt).2
        have c1 := hA.cell k hlt
        have hk1 : (k : Int) < 16 := by omega
        have hk0 : (0 : Int) ≤ k := by omega
        have e1 : IntKind.i64.wrap (b k * b k) = b k * b k := IntWalk.i64_in _ (by omega)
        have e2 : IntKind.i64.wrap (enerTo b k + b k * b k) = enerTo b k + b k * b k := IntWalk.i64_in _ (by omega)
        go_wp2_with fail
        go_quiet (fail)
        clear e1 e2
        go_wp2
        go_roundw
        case rel => exact ⟨k + 1, by omega, by go_num, rfl, hA.drewN _, below_drewN hbel _⟩
        case measure => simp [intOf]; omega
      · obtain rfl : k = 16 := by omega
        go_wp2
        go_ret
        exact ⟨ret_int HE.out.symm, hbel⟩
  · have hok : okB b 4080 = false := by simpa using hok
    have HE := Lib.hid (show energyI b = -1 by unfold energyI; rw [if_neg (by simp [hok])])
    go_wp2
    go_ret
    exact ⟨ret_int HE.out.symm, hbw⟩

end Go.Proofs.Ytammofbncdmccaa
