/- The mean of the edges, of both. -/
import Derived.Test.YtjogdkeoadkbnaaPredict
namespace Go.Proofs.Ytjogdkeoadkbnaa
open Go.RowKit

/-- The sum and the number of the available samples among the first k of each side. -/
def mSum (a b : Nat → Int) (u v : Bool) : Nat → Int
  | 0 => 0
  | k + 1 => mSum a b u v k + (if u then a k else 0) + (if v then b k else 0)
def mNum (u v : Bool) : Nat → Int
  | 0 => 0
  | k + 1 => mNum u v k + (if u then 1 else 0) + (if v then 1 else 0)
theorem mSum_bd {a b : Nat → Int} (u v : Bool) (ha : ∀ k, k < 4 → 0 ≤ a k ∧ a k ≤ 255) (hb : ∀ k, k < 4 → 0 ≤ b k ∧ b k ≤ 255) : ∀ k, k ≤ 4 → 0 ≤ mSum a b u v k ∧ mSum a b u v k ≤ 510 * k
  | 0, _ => by simp [mSum]
  | k + 1, h => by
    have ih := mSum_bd u v ha hb k (by omega)
    have h1 := ha k (by omega)
    have h2 := hb k (by omega)
    simp only [mSum]
    cases u <;> cases v <;> simp <;> omega
theorem mNum_bd (u v : Bool) : ∀ k, k ≤ 4 → 0 ≤ mNum u v k ∧ mNum u v k ≤ 2 * k
  | 0, _ => by simp [mNum]
  | k + 1, h => by
    have ih := mNum_bd u v k (by omega)
    simp only [mNum]
    cases u <;> cases v <;> simp <;> omega
/-- The mean. -/
def meanI (a b : Nat → Int) (u v : Bool) : Int := if mNum u v 4 = 0 then 128 else (mSum a b u v 4 + mNum u v 4 / 2) / mNum u v 4
set_option maxHeartbeats 1000000 in
theorem l6Mean_any (a b : Nat → Int) (c : Int) (u v : Bool) (w : World) (ha : ∀ k, k < 4 → 0 ≤ a k ∧ a k ≤ 255) (hb : ∀ k, k < 4 → 0 ≤ b k ∧ b k ≤ 255) :
    Calls Try.prog 61 #[.agg (edgV a b c u v)] w fun e w' => e = .returned (.int .i64 (meanI a b u v)) ∧ Below w.heap.size w w' := by
  obtain ⟨w0, hw0⟩ : ∃ w0, w0 = w.alloc (.cells (edgV a b c u v) 41) := ⟨_, rfl⟩
  have hE : EdgB w0 w.heap.size 41 (edgV a b c u v) := by rw [hw0]; exact EdgB.new' rfl
  have hbel : Below w.heap.size w w0 := by rw [hw0]; exact (Below.refl _ _).alloc (Nat.le_refl _) _
  have HW := Lib.hid hw0; clear hw0
  have HS := Lib.hid (mSum_bd u v ha hb); have HN := Lib.hid (mNum_bd u v)
  have cu : w0.cell? ⟨w.heap.size, 9, none⟩ = some (.bool u) := hE.cell 9
  have cv : w0.cell? ⟨w.heap.size, 10, none⟩ = some (.bool v) := hE.cell 10
  go_enter Try.func61, Try.ntmps61
  go_wp2_with fail
  rw [← HW.out]; clear HW
  go_loopw [3, 4, 5] (fun n m i wr => ∃ k : Nat, k ≤ 4 ∧ i = .int .i64 k ∧ n = .int .i64 (mSum a b u v k) ∧ m = .int .i64 (mNum u v k) ∧ wr = w0) (fun _ _ i _ => 4 - (intOf i).toNat)
  case atStart => exact ⟨0, by omega, rfl, rfl, rfl, rfl⟩
  case round =>
    obtain ⟨k, hk, rfl, rfl, rfl, rfl⟩ := hrel
    by_cases hlt : k < 4
    · have hlt' : (k : Int) < 4 := by omega
      have hk0 : (0 : Int) ≤ k := by omega
      have s1 := HS.out k hk
      have n1 := HN.out k hk
      have c1 := hE.cell k
      rw [edgV_getA _ _ _ _ _ _ hlt] at c1
      have c2 := hE.cell (4 + k)
      rw [edgV_getL _ _ _ _ _ _ hlt] at c2
      have x1 := ha k hlt
      have y1 := hb k hlt
      have es : mSum a b u v (k + 1) = mSum a b u v k + (if u then a k else 0) + (if v then b k else 0) := rfl
      have en : mNum u v (k + 1) = mNum u v k + (if u then 1 else 0) + (if v then 1 else 0) := rfl
      have ES := Lib.hid es; have EN := Lib.hid en; clear es en
      generalize mSum a b u v k = s at *
      generalize mNum u v k = m at *
      generalize a k = x at *
      generalize b k = y at *
      clear HS HN
      have e1 : IntKind.i64.wrap (s + x) = s + x := IntWalk.i64_in _ (by omega)
      have e2 : IntKind.i64.wrap (s + y) = s + y := IntWalk.i64_in _ (by omega)
      have e3 : IntKind.i64.wrap (s + x + y) = s + x + y := IntWalk.i64_in _ (by omega)
      have e4 : IntKind.i64.wrap (m + 1) = m + 1 := IntWalk.i64_in _ (by omega)
      have e5 : IntKind.i64.wrap (m + 1 + 1) = m + 1 + 1 := IntWalk.i64_in _ (by omega)
      cases u <;> cases v
      all_goals
        go_wp2_with fail
        go_roundw
        case rel => exact ⟨k + 1, by omega, by go_num, by rw [ES.out]; simp, by rw [EN.out]; simp, by first | rfl | trivial⟩
        case measure => simp [intOf]; omega
    · obtain rfl : k = 4 := by omega
      have s1 := HS.out 4 (by omega)
      have n1 := HN.out 4 (by omega)
      have HM := Lib.hid (show meanI a b u v = if mNum u v 4 = 0 then 128 else (mSum a b u v 4 + mNum u v 4 / 2) / mNum u v 4 from rfl)
      generalize mSum a b u v 4 = s at *
      generalize mNum u v 4 = m at *
      clear HS HN
      have e0 : 0 ≤ m / 2 ∧ m / 2 ≤ 4 := by omega
      have e1 : IntKind.i64.wrap (s + m / 2) = s + m / 2 := IntWalk.i64_in _ (by omega)
      by_cases hm : m = 0
      · have e2 : (m == 0) = true := by simp [hm]
        have hr : meanI a b u v = 128 := by rw [HM.out, if_pos hm]
        clear hm
        go_wp2_with fail
        go_ret
        exact ⟨ret_int hr.symm, hbel⟩
      · have e2 : (m == 0) = false := by simp [hm]
        have hr : meanI a b u v = (s + m / 2) / m := by rw [HM.out, if_neg hm]
        have hq : 0 ≤ (s + m / 2) / m := Int.ediv_nonneg (by omega) (by omega)
        have hq2 : (s + m / 2) / m ≤ s + m / 2 := Int.ediv_le_self _ (by omega)
        have e3 : IntKind.i64.wrap ((s + m / 2) / m) = (s + m / 2) / m := IntWalk.i64_in _ (by omega)
        have e4 : (s + m / 2).tdiv m = (s + m / 2) / m := Int.tdiv_eq_ediv_of_nonneg (by omega)
        go_wp2_with fail
        go_ret
        exact ⟨ret_int hr.symm, hbel⟩
end Go.Proofs.Ytjogdkeoadkbnaa
