/- The method mean of the program. -/
import Derived.Test.YtjogdkeoadkbnaaPredict2
namespace Go.Proofs.Ytjogdkeoadkbnaa
open Go.RowKit

set_option maxHeartbeats 1000000 in
theorem mean_any (a b : Nat → Int) (c : Int) (u v : Bool) (p q : Int) (w : World) (ha : ∀ k, k < 4 → 0 ≤ a k ∧ a k ≤ 255) (hb : ∀ k, k < 4 → 0 ≤ b k ∧ b k ≤ 255) :
    Calls Try.prog 63 #[.agg (edgV a b c u v), .int .i64 p, .int .i64 q] w fun e w' => e = .returned (.int .i64 (meanI a b u v)) ∧ Below w.heap.size w w' := by
  obtain ⟨w0, hw0⟩ : ∃ w0, w0 = w.alloc (.cells (edgV a b c u v) 41) := ⟨_, rfl⟩
  have hE : EdgB w0 w.heap.size 41 (edgV a b c u v) := by rw [hw0]; exact EdgB.new' rfl
  have hbel : Below w.heap.size w w0 := by rw [hw0]; exact (Below.refl _ _).alloc (Nat.le_refl _) _
  have HW := Lib.hid hw0; clear hw0
  have HS := Lib.hid (mSum_bd u v ha hb); have HN := Lib.hid (mNum_bd u v)
  have cu : w0.cell? ⟨w.heap.size, 9, none⟩ = some (.bool u) := hE.cell 9
  have cv : w0.cell? ⟨w.heap.size, 10, none⟩ = some (.bool v) := hE.cell 10
  go_enter Try.func63, Try.ntmps63
  go_wp2_with fail
  rw [← HW.out]; clear HW
  go_loopw [7, 8, 10] (fun n m i wr => ∃ k : Nat, k ≤ 4 ∧ i = .int .i64 k ∧ n = .int .i64 (mSum a b u v k) ∧ m = .int .i64 (mNum u v k) ∧ wr = w0) (fun _ _ i _ => 4 - (intOf i).toNat)
  case atStart => exact ⟨0, by omega, rfl, rfl, rfl, rfl⟩
  case round =>
    obtain ⟨k, hk, rfl, rfl, rfl, rfl⟩ := hrel
    by_cases hlt : k < 4
    · have hlt' : (k : Int) < 4 := by omega
      have hk0 : (0 : Int) ≤ k := by omega
      have s1 := HS.out k hk
      have n1 := HN.out k hk
      have c1 := hE.cell k
      rw [edgV_getA _ _ _ _ _ _ hlt] at c1
      have c2 := hE.cell (4 + k)
      rw [edgV_getL _ _ _ _ _ _ hlt] at c2
      have x1 := ha k hlt
      have y1 := hb k hlt
      have es : mSum a b u v (k + 1) = mSum a b u v k + (if u then a k else 0) + (if v then b k else 0) := rfl
      have en : mNum u v (k + 1) = mNum u v k + (if u then 1 else 0) + (if v then 1 else 0) := rfl
      have ES := Lib.hid es; have EN := Lib.hid en; clear es en
      generalize mSum a b u v k = s at *
      generalize mNum u v k = m at *
      generalize a k = x at *
      generalize b k = y at *
      clear HS HN
      have e1 : IntKind.i64.wrap (s + x) = s + x := IntWalk.i64_in _ (by omega)
      have e2 : IntKind.i64.wrap (s + y) = s + y := IntWalk.i64_in _ (by omega)
      have e3 : IntKind.i64.wrap (s + x + y) = s + x + y := IntWalk.i64_in _ (by omega)
      have e4 : IntKind.i64.wrap (m + 1) = m + 1 := IntWalk.i64_in _ (by omega)
      have e5 : IntKind.i64.wrap (m + 1 + 1) = m + 1 + 1 := IntWalk.i64_in _ (by omega)
      cases u <;> cases v
      all_goals
        go_wp2_with fail
        go_roundw
        case rel => exact ⟨k + 1, by omega, by go_num, by rw [ES.out]; simp, by rw [EN.out]; simp, by first | rfl | trivial⟩
        case measure => simp [intOf]; omega
    · obtain rfl : k = 4 := by omega
      have s1 := HS.out 4 (by omega)
      have n1 := HN.out 4 (by omega)
      have HM := Lib.hid (show meanI a b u v = if mNum u v 4 = 0 then 128 else (mSum a b u v 4 + mNum u v 4 / 2) / mNum u v 4 from rfl)
      have h48 : mNum u v 4 = 0 ∨ mNum u v 4 = 4 ∨ mNum u v 4 = 8 := by cases u <;> cases v <;> simp [mNum]
      generalize mSum a b u v 4 = s at *
      generalize mNum u v 4 = m at *
      clear HS HN
      have e0 : 0 ≤ m / 2 ∧ m / 2 ≤ 4 := by omega
      have e1 : IntKind.i64.wrap (s + m / 2) = s + m / 2 := IntWalk.i64_in _ (by omega)
      by_cases hm : m = 0
      · have e2 : (m == 0) = true := by simp [hm]
        have hr : meanI a b u v = 128 := by rw [HM.out, if_pos hm]
        clear hm
        go_wp2_with fail
        go_ret
        exact ⟨ret_int hr.symm, hbel⟩
      · have e2 : (m == 0) = false := by simp [hm]
        have hr : meanI a b u v = (s + m / 2) / m := by rw [HM.out, if_neg hm]
        have hq : 0 ≤ (s + m / 2) / m := Int.ediv_nonneg (by omega) (by omega)
        have hq2 : (s + m / 2) / m ≤ s + m / 2 := Int.ediv_le_self _ (by omega)
        have e3 : IntKind.i64.wrap ((s + m / 2) / m) = (s + m / 2) / m := IntWalk.i64_in _ (by omega)
        have e4 : (s + m / 2).tdiv m = (s + m / 2) / m := Int.tdiv_eq_ediv_of_nonneg (by omega)
        have hro : roundI s m = meanI a b u v := by
          rw [hr]
          unfold roundI
          rcases h48 with h | h | h
          · exact absurd h hm
          · subst h; omega
          · subst h; omega
        go_wp2_with fail
        refine (rounded_any s m _ (by omega) (by omega) (by omega) (by omega)).mono ?_; rintro e w' ⟨rfl, rfl⟩
        rw [hro]
        clear hro hr
        go_wp2_with fail
        go_ret
        exact ⟨rfl, hbel⟩
end Go.Proofs.Ytjogdkeoadkbnaa
