/- The walks of the laws on blocks whose argument is a code to draw from. -/
import Derived.Test.YtammofbncdmccaaDrawBlock2
import Derived.Test.YtammofbncdmccaaBlockMath
import Derived.Deep.RegionHeld3
namespace Go.Proofs.Ytammofbncdmccaa
open Go.RowKit

theorem inv_flat (z : Int) (h1 : -4080 ≤ z) (h2 : z ≤ 4080) : ∀ k, k < 16 → invI (fun i => if i = 0 then z else 0) k = rnd16 z := fun k hk => by
  unfold invI
  rw [if_pos (okB_true (fun j _ => by by_cases e : j = 0 <;> simp only [e, if_true, if_false] <;> omega)), app_first _ (fun j h0 _ => by rw [if_neg (by omega)]) k hk]
  rfl
theorem flat_VN (z : Int) : VN 16 (fun i => if i = 0 then z else 0) = #[.int .i64 z, .int .i64 0, .int .i64 0, .int .i64 0, .int .i64 0, .int .i64 0, .int .i64 0, .int .i64 0, .int .i64 0, .int .i64 0, .int .i64 0, .int .i64 0, .int .i64 0, .int .i64 0, .int .i64 0, .int .i64 0] := by kernel_rfl

set_option maxRecDepth 100000 in
set_option maxHeartbeats 4000000 in
theorem FnInverseTransform_walk (a : Option Addr) (len cap : Nat) (zs : List Int) (w : World) (h : IsRow .u8 w a len cap zs) :
    Calls Try.prog 5 #[.slice a len cap] w fun e w' => e = .returned (.bool true) ∧ Below w.heap.size w w' := by
  obtain ⟨hs, hm⟩ := h.bytes
  unfold maxLen at hm
  clear h
  by_cases hl : 1048576 < len
  · clear hs
    go_enter Try.func5, Try.ntmps5
    go_wp2
    go_ret
    exact ⟨rfl, Below.refl _ _⟩
  · have HS := Lib.hid hs; clear hs
    have HB := Lib.hid (Below.refl w.heap.size w)
    go_enter Try.func5, Try.ntmps5
    go_wp2_with fail
    refine (DrawInverseTransform_any _ len _ _ HS.out (by omega)).mono ?_; rintro e w1 ⟨b, rfl, HWi, hw1⟩
    have zw1 : w.heap.size ≤ w1.heap.size := hw1.size
    replace HB := Lib.hid (HB.out.trans (hw1.mono (by omega)))
    clear hw1
    have HN := Lib.hid (show Blk (w1.alloc (.cells #[.int .i64 0, .int .i64 0, .int .i64 0, .int .i64 0, .int .i64 0, .int .i64 0, .int .i64 0, .int .i64 0, .int .i64 0, .int .i64 0, .int .i64 0, .int .i64 0, .int .i64 0, .int .i64 0, .int .i64 0, .int .i64 0] 23)) w1.heap.size 16 23 (fun _ => 0) by rw [← zero16]; exact Blk.new _ _ _ _)
    obtain ⟨w2, hw⟩ : ∃ w2, w2 = (w1.alloc (.cells #[.int .i64 0, .int .i64 0, .int .i64 0, .int .i64 0, .int .i64 0, .int .i64 0, .int .i64 0, .int .i64 0, .int .i64 0, .int .i64 0, .int .i64 0, .int .i64 0, .int .i64 0, .int .i64 0, .int .i64 0, .int .i64 0] 23)).setRow w1.heap.size (VN 16 (b)) := ⟨_, rfl⟩
    have hV : Blk w2 w1.heap.size 16 23 (b) := by rw [hw]; exact HN.out.setRow _
    have hw2 : Below w1.heap.size w1 w2 := by rw [hw]; exact below_setRow ((Below.refl _ _).alloc (Nat.le_refl _) _) (Nat.le_refl _) _
    have zw2 : w1.heap.size < w2.heap.size := by rw [hw]; simp
    have HW := Lib.hid hw; clear hw
    replace HB := Lib.hid (HB.out.trans (hw2.mono (by omega)))
    have Vb := Lib.hid hV; clear hV hw2
    go_wp2_with (first | (refine store16 w1.heap.size _ HN.out rfl rfl rfl rfl ?_; rw [← HW.out]) | refine load16 (w1.heap.size) Vb.out rfl rfl rfl ?_)
    clear HW HN
    refine (iInverse_any _ _).mono ?_; rintro e w3 ⟨rfl, hw3⟩
    have zw3 : w2.heap.size ≤ w3.heap.size := hw3.size
    replace HB := Lib.hid (HB.out.trans (hw3.mono (by omega)))
    replace Vb := Lib.hid (Vb.out.below hw3 (by omega))
    clear hw3
    have HN := Lib.hid (show Blk (w3.alloc (.cells #[.int .i64 0, .int .i64 0, .int .i64 0, .int .i64 0, .int .i64 0, .int .i64 0, .int .i64 0, .int .i64 0, .int .i64 0, .int .i64 0, .int .i64 0, .int .i64 0, .int .i64 0, .int .i64 0, .int .i64 0, .int .i64 0] 23)) w3.heap.size 16 23 (fun _ => 0) by rw [← zero16]; exact Blk.new _ _ _ _)
    obtain ⟨w4, hw⟩ : ∃ w4, w4 = (w3.alloc (.cells #[.int .i64 0, .int .i64 0, .int .i64 0, .int .i64 0, .int .i64 0, .int .i64 0, .int .i64 0, .int .i64 0, .int .i64 0, .int .i64 0, .int .i64 0, .int .i64 0, .int .i64 0, .int .i64 0, .int .i64 0, .int .i64 0] 23)).setRow w3.heap.size (VN 16 (invI b)) := ⟨_, rfl⟩
    have hV : Blk w4 w3.heap.size 16 23 (invI b) := by rw [hw]; exact HN.out.setRow _
    have hw4 : Below w3.heap.size w3 w4 := by rw [hw]; exact below_setRow ((Below.refl _ _).alloc (Nat.le_refl _) _) (Nat.le_refl _) _
    have zw4 : w3.heap.size < w4.heap.size := by rw [hw]; simp
    have HW := Lib.hid hw; clear hw
    replace HB := Lib.hid (HB.out.trans (hw4.mono (by omega)))
    replace Vb := Lib.hid (Vb.out.below hw4 (by omega))
    have Vc := Lib.hid hV; clear hV hw4
    go_wp2_with (refine store16 w3.heap.size _ HN.out rfl rfl rfl rfl ?_; rw [← HW.out])
    clear HW HN
    have he : ∀ w, (Op.equalIn 10000 23 (.agg (VN 16 (invI b))) (.agg (VN 16 (invI b)))).run Try.prog w = .ok true w := fun w => by rw [run_equal16, eqB_true (fun _ _ => rfl)]
    refine wp_region_held_drew (S := fun w' => Below w4.heap.size w4 w') (by kernel_rfl) (Below.refl _ _).drew (fun hw5 => ?_)
    have Vb0 := Vb
    have Vc0 := Vc
    generalize w4.drew = w5 at hw5 ⊢
    have zw5 : w4.heap.size ≤ w5.heap.size := hw5.size
    replace HB := Lib.hid (HB.out.trans (hw5.mono (by omega)))
    replace Vb := Lib.hid (Vb.out.below hw5 (by omega))
    replace Vc := Lib.hid (Vc.out.below hw5 (by omega))
    refine wpAnyH_take (i := 0) (v := .agg (VN 16 (invI b))) rfl (by kernel_rfl) (by kernel_rfl) (by kernel_rfl) (fun _ _ _ h => h) (yields16' (w3.heap.size) (fun _ h => Vc0.out.below h (by omega)) (by rfl) rfl rfl) hw5 ?_
    refine wpAnyH_take (i := 1) (v := .agg (VN 16 (b))) rfl (by kernel_rfl) (by kernel_rfl) (by kernel_rfl) (fun _ _ _ h => h) (yields16' (w1.heap.size) (fun _ h => Vb0.out.below h (by omega)) (by rfl) rfl rfl) hw5 ?_
    refine wpAnyH_ready (rs := [2]) (by kernel_rfl) (by simp) ?_
    refine AllReadyH.cons rfl (fun K hK => ?_) AllReadyH.nil
    go_simp
    refine (sInverse_any _ _).mono ?_; rintro e w6 ⟨rfl, hw6⟩
    have zw6 : w5.heap.size ≤ w6.heap.size := hw6.size
    replace HB := Lib.hid (HB.out.trans (hw6.mono (by omega)))
    replace Vb := Lib.hid (Vb.out.below hw6 (by omega))
    replace Vc := Lib.hid (Vc.out.below hw6 (by omega))
    refine hK.out _ _ (hw5.trans (hw6.mono (by omega))) (fun Hw6 => ?_)
    clear hK K hw6 hw5
    refine wpAnyH_ready (rs := [3]) (by kernel_rfl) (by simp) ?_
    refine AllReadyH.cons rfl (fun K hK => ?_) AllReadyH.nil
    go_simp
    refine hK.out _ _ Hw6 (fun _ => ?_)
    clear hK K
    refine wpAnyH_done (by kernel_rfl) ?_ _
    clear Vb0
    clear Vc0
    clear Hw6
    clear he
    have hb0 := HWi.out 0 (by omega)
    have c0a : (w6.alloc (.cells #[.int .i64 0, .int .i64 0, .int .i64 0, .int .i64 0, .int .i64 0, .int .i64 0, .int .i64 0, .int .i64 0, .int .i64 0, .int .i64 0, .int .i64 0, .int .i64 0, .int .i64 0, .int .i64 0, .int .i64 0, .int .i64 0] 23)).cell? ⟨w1.heap.size, 0, none⟩ = some (.int .i64 (b 0)) := (Vb.out.alloc _).cell 0 (by omega)
    by_cases hx1 : b 0 < 4080
    · by_cases hx2 : -4080 < b 0
      · skip
        obtain ⟨z, hz⟩ : ∃ z : Int, z = b 0 := ⟨_, rfl⟩
        have hz1 : -4080 ≤ z := by omega
        have hz2 : z ≤ 4080 := by omega
        have HZ := Lib.hid hz; clear hz
        have hr : -8 ≤ 16 * rnd16 (z) - (z) ∧ 16 * rnd16 (z) - (z) ≤ 8 ∧ -300 ≤ rnd16 (z) ∧ rnd16 (z) ≤ 300 := by unfold rnd16; omega
        go_wp2_with fail
        rw [← flat_VN, ← HZ.out]
        obtain ⟨w7, hw⟩ : ∃ w7, w7 = w6.alloc (.cells (VN 16 (fun i => if i = 0 then z else 0)) 23) := ⟨_, rfl⟩
        have hV : Blk w7 w6.heap.size 16 23 (fun i => if i = 0 then z else 0) := by rw [hw]; exact Blk.new _ _ _ _
        have hw7 : Below w6.heap.size w6 w7 := by rw [hw]; exact (Below.refl _ _).alloc (Nat.le_refl _) _
        have zw7 : w6.heap.size < w7.heap.size := by rw [hw]; simp
        rw [← hw]
        clear hw c0a
        replace HB := Lib.hid (HB.out.trans (hw7.mono (by omega)))
        replace Vb := Lib.hid (Vb.out.below hw7 (by omega))
        replace Vc := Lib.hid (Vc.out.below hw7 (by omega))
        have Vf := Lib.hid hV; clear hV hw7
        refine (iInverse_any _ _).mono ?_; rintro e w8 ⟨rfl, hw8⟩
        have zw8 : w7.heap.size ≤ w8.heap.size := hw8.size
        replace HB := Lib.hid (HB.out.trans (hw8.mono (by omega)))
        replace Vb := Lib.hid (Vb.out.below hw8 (by omega))
        replace Vc := Lib.hid (Vc.out.below hw8 (by omega))
        replace Vf := Lib.hid (Vf.out.below hw8 (by omega))
        clear hw8
        have HN := Lib.hid (show Blk (w8.alloc (.cells #[.int .i64 0, .int .i64 0, .int .i64 0, .int .i64 0, .int .i64 0, .int .i64 0, .int .i64 0, .int .i64 0, .int .i64 0, .int .i64 0, .int .i64 0, .int .i64 0, .int .i64 0, .int .i64 0, .int .i64 0, .int .i64 0] 23)) w8.heap.size 16 23 (fun _ => 0) by rw [← zero16]; exact Blk.new _ _ _ _)
        obtain ⟨w9, hw⟩ : ∃ w9, w9 = (w8.alloc (.cells #[.int .i64 0, .int .i64 0, .int .i64 0, .int .i64 0, .int .i64 0, .int .i64 0, .int .i64 0, .int .i64 0, .int .i64 0, .int .i64 0, .int .i64 0, .int .i64 0, .int .i64 0, .int .i64 0, .int .i64 0, .int .i64 0] 23)).setRow w8.heap.size (VN 16 (invI (fun i => if i = 0 then z else 0))) := ⟨_, rfl⟩
        have hV : Blk w9 w8.heap.size 16 23 (invI (fun i => if i = 0 then z else 0)) := by rw [hw]; exact HN.out.setRow _
        have hw9 : Below w8.heap.size w8 w9 := by rw [hw]; exact below_setRow ((Below.refl _ _).alloc (Nat.le_refl _) _) (Nat.le_refl _) _
        have zw9 : w8.heap.size < w9.heap.size := by rw [hw]; simp
        have HW := Lib.hid hw; clear hw
        replace HB := Lib.hid (HB.out.trans (hw9.mono (by omega)))
        replace Vb := Lib.hid (Vb.out.below hw9 (by omega))
        replace Vc := Lib.hid (Vc.out.below hw9 (by omega))
        replace Vf := Lib.hid (Vf.out.below hw9 (by omega))
        have Vy := Lib.hid hV; clear hV hw9
        go_wp2_with (refine store16 w8.heap.size _ HN.out rfl rfl rfl rfl ?_; rw [← HW.out])
        clear HW HN
        have VY : Hid (Blk w9 w8.heap.size 16 23 (fun _ => rnd16 (z))) := Vy.out.congr (fun j hj => inv_flat (z) (by omega) (by omega) j hj)
        clear Vy
        have e1 : IntKind.i64.wrap (16 * rnd16 (z)) = 16 * rnd16 (z) := IntWalk.i64_in _ (by omega)
        have e2 : IntKind.i64.wrap (16 * rnd16 (z) - (z)) = 16 * rnd16 (z) - (z) := IntWalk.i64_in _ (by omega)
        have ha : absI (16 * rnd16 (z) - (z)) ≤ 8 := by unfold absI; omega
        go_loopw [7] (fun i wr => ∃ j : Nat, j ≤ 16 ∧ i = .int .i64 j ∧ Blk wr (w8.heap.size) 16 23 (fun _ => rnd16 z) ∧ Blk wr (w6.heap.size) 16 23 (fun i => if i = 0 then z else 0) ∧ Below w.heap.size w wr) (fun i _ => 16 - (intOf i).toNat)
        case atStart => exact ⟨0, by omega, rfl, VY.out, Vf.out, HB.out⟩
        case round =>
          clear Vb Vc Vf VY HB
          obtain ⟨j, hj, rfl, hY, hF, hB⟩ := hrel
          by_cases hj16 : j < 16
          · have c1 : wr.cell? ⟨w8.heap.size, j, none⟩ = some (.int .i64 (rnd16 z)) := hY.cell j hj16
            have c0 : wr.cell? ⟨w8.heap.size, 0, none⟩ = some (.int .i64 (rnd16 z)) := hY.cell 0 (by omega)
            have cf : wr.cell? ⟨w6.heap.size, 0, none⟩ = some (.int .i64 z) := hF.cell 0 (by omega)
            have hj1 : (j : Int) < 16 := by omega
            have hj0 : (0 : Int) ≤ j := by omega
            go_wp2_with fail
            go_quiet ((go_at_call 15; exact quietL (labs_any _ _ (by omega) (by omega))))
            go_wp2_with fail
            go_roundw
            case rel => exact ⟨j + 1, by omega, by go_num, hY.drewN _, hF.drewN _, below_drewN hB _⟩
            case measure => simp [intOf]; omega
          · go_wp2_with fail
            refine (alive_any _).mono ?_; rintro e w10 ⟨rfl, hw10⟩
            go_wp2_with fail
            go_ret
            exact ⟨rfl, hB.trans (hw10.mono hB.size)⟩
      · skip
        obtain ⟨z, hz⟩ : ∃ z : Int, z = -4080 := ⟨_, rfl⟩
        have hz1 : -4080 ≤ z := by omega
        have hz2 : z ≤ 4080 := by omega
        have HZ := Lib.hid hz; clear hz
        have hr : -8 ≤ 16 * rnd16 (z) - (z) ∧ 16 * rnd16 (z) - (z) ≤ 8 ∧ -300 ≤ rnd16 (z) ∧ rnd16 (z) ≤ 300 := by unfold rnd16; omega
        go_wp2_with fail
        rw [← flat_VN, ← HZ.out]
        obtain ⟨w7, hw⟩ : ∃ w7, w7 = w6.alloc (.cells (VN 16 (fun i => if i = 0 then z else 0)) 23) := ⟨_, rfl⟩
        have hV : Blk w7 w6.heap.size 16 23 (fun i => if i = 0 then z else 0) := by rw [hw]; exact Blk.new _ _ _ _
        have hw7 : Below w6.heap.size w6 w7 := by rw [hw]; exact (Below.refl _ _).alloc (Nat.le_refl _) _
        have zw7 : w6.heap.size < w7.heap.size := by rw [hw]; simp
        rw [← hw]
        clear hw c0a
        replace HB := Lib.hid (HB.out.trans (hw7.mono (by omega)))
        replace Vb := Lib.hid (Vb.out.below hw7 (by omega))
        replace Vc := Lib.hid (Vc.out.below hw7 (by omega))
        have Vf := Lib.hid hV; clear hV hw7
        refine (iInverse_any _ _).mono ?_; rintro e w8 ⟨rfl, hw8⟩
        have zw8 : w7.heap.size ≤ w8.heap.size := hw8.size
        replace HB := Lib.hid (HB.out.trans (hw8.mono (by omega)))
        replace Vb := Lib.hid (Vb.out.below hw8 (by omega))
        replace Vc := Lib.hid (Vc.out.below hw8 (by omega))
        replace Vf := Lib.hid (Vf.out.below hw8 (by omega))
        clear hw8
        have HN := Lib.hid (show Blk (w8.alloc (.cells #[.int .i64 0, .int .i64 0, .int .i64 0, .int .i64 0, .int .i64 0, .int .i64 0, .int .i64 0, .int .i64 0, .int .i64 0, .int .i64 0, .int .i64 0, .int .i64 0, .int .i64 0, .int .i64 0, .int .i64 0, .int .i64 0] 23)) w8.heap.size 16 23 (fun _ => 0) by rw [← zero16]; exact Blk.new _ _ _ _)
        obtain ⟨w9, hw⟩ : ∃ w9, w9 = (w8.alloc (.cells #[.int .i64 0, .int .i64 0, .int .i64 0, .int .i64 0, .int .i64 0, .int .i64 0, .int .i64 0, .int .i64 0, .int .i64 0, .int .i64 0, .int .i64 0, .int .i64 0, .int .i64 0, .int .i64 0, .int .i64 0, .int .i64 0] 23)).setRow w8.heap.size (VN 16 (invI (fun i => if i = 0 then z else 0))) := ⟨_, rfl⟩
        have hV : Blk w9 w8.heap.size 16 23 (invI (fun i => if i = 0 then z else 0)) := by rw [hw]; exact HN.out.setRow _
        have hw9 : Below w8.heap.size w8 w9 := by rw [hw]; exact below_setRow ((Below.refl _ _).alloc (Nat.le_refl _) _) (Nat.le_refl _) _
        have zw9 : w8.heap.size < w9.heap.size := by rw [hw]; simp
        have HW := Lib.hid hw; clear hw
        replace HB := Lib.hid (HB.out.trans (hw9.mono (by omega)))
        replace Vb := Lib.hid (Vb.out.below hw9 (by omega))
        replace Vc := Lib.hid (Vc.out.below hw9 (by omega))
        replace Vf := Lib.hid (Vf.out.below hw9 (by omega))
        have Vy := Lib.hid hV; clear hV hw9
        go_wp2_with (refine store16 w8.heap.size _ HN.out rfl rfl rfl rfl ?_; rw [← HW.out])
        clear HW HN
        have VY : Hid (Blk w9 w8.heap.size 16 23 (fun _ => rnd16 (z))) := Vy.out.congr (fun j hj => inv_flat (z) (by omega) (by omega) j hj)
        clear Vy
        have e1 : IntKind.i64.wrap (16 * rnd16 (z)) = 16 * rnd16 (z) := IntWalk.i64_in _ (by omega)
        have e2 : IntKind.i64.wrap (16 * rnd16 (z) - (z)) = 16 * rnd16 (z) - (z) := IntWalk.i64_in _ (by omega)
        have ha : absI (16 * rnd16 (z) - (z)) ≤ 8 := by unfold absI; omega
        go_loopw [7] (fun i wr => ∃ j : Nat, j ≤ 16 ∧ i = .int .i64 j ∧ Blk wr (w8.heap.size) 16 23 (fun _ => rnd16 z) ∧ Blk wr (w6.heap.size) 16 23 (fun i => if i = 0 then z else 0) ∧ Below w.heap.size w wr) (fun i _ => 16 - (intOf i).toNat)
        case atStart => exact ⟨0, by omega, rfl, VY.out, Vf.out, HB.out⟩
        case round =>
          clear Vb Vc Vf VY HB
          obtain ⟨j, hj, rfl, hY, hF, hB⟩ := hrel
          by_cases hj16 : j < 16
          · have c1 : wr.cell? ⟨w8.heap.size, j, none⟩ = some (.int .i64 (rnd16 z)) := hY.cell j hj16
            have c0 : wr.cell? ⟨w8.heap.size, 0, none⟩ = some (.int .i64 (rnd16 z)) := hY.cell 0 (by omega)
            have cf : wr.cell? ⟨w6.heap.size, 0, none⟩ = some (.int .i64 z) := hF.cell 0 (by omega)
            have hj1 : (j : Int) < 16 := by omega
            have hj0 : (0 : Int) ≤ j := by omega
            go_wp2_with fail
            go_quiet ((go_at_call 15; exact quietL (labs_any _ _ (by omega) (by omega))))
            go_wp2_with fail
            go_roundw
            case rel => exact ⟨j + 1, by omega, by go_num, hY.drewN _, hF.drewN _, below_drewN hB _⟩
            case measure => simp [intOf]; omega
          · go_wp2_with fail
            refine (alive_any _).mono ?_; rintro e w10 ⟨rfl, hw10⟩
            go_wp2_with fail
            go_ret
            exact ⟨rfl, hB.trans (hw10.mono hB.size)⟩
    · skip
      obtain ⟨z, hz⟩ : ∃ z : Int, z = 4080 := ⟨_, rfl⟩
      have hz1 : -4080 ≤ z := by omega
      have hz2 : z ≤ 4080 := by omega
      have HZ := Lib.hid hz; clear hz
      have hr : -8 ≤ 16 * rnd16 (z) - (z) ∧ 16 * rnd16 (z) - (z) ≤ 8 ∧ -300 ≤ rnd16 (z) ∧ rnd16 (z) ≤ 300 := by unfold rnd16; omega
      go_wp2_with fail
      rw [← flat_VN, ← HZ.out]
      obtain ⟨w7, hw⟩ : ∃ w7, w7 = w6.alloc (.cells (VN 16 (fun i => if i = 0 then z else 0)) 23) := ⟨_, rfl⟩
      have hV : Blk w7 w6.heap.size 16 23 (fun i => if i = 0 then z else 0) := by rw [hw]; exact Blk.new _ _ _ _
      have hw7 : Below w6.heap.size w6 w7 := by rw [hw]; exact (Below.refl _ _).alloc (Nat.le_refl _) _
      have zw7 : w6.heap.size < w7.heap.size := by rw [hw]; simp
      rw [← hw]
      clear hw c0a
      replace HB := Lib.hid (HB.out.trans (hw7.mono (by omega)))
      replace Vb := Lib.hid (Vb.out.below hw7 (by omega))
      replace Vc := Lib.hid (Vc.out.below hw7 (by omega))
      have Vf := Lib.hid hV; clear hV hw7
      refine (iInverse_any _ _).mono ?_; rintro e w8 ⟨rfl, hw8⟩
      have zw8 : w7.heap.size ≤ w8.heap.size := hw8.size
      replace HB := Lib.hid (HB.out.trans (hw8.mono (by omega)))
      replace Vb := Lib.hid (Vb.out.below hw8 (by omega))
      replace Vc := Lib.hid (Vc.out.below hw8 (by omega))
      replace Vf := Lib.hid (Vf.out.below hw8 (by omega))
      clear hw8
      have HN := Lib.hid (show Blk (w8.alloc (.cells #[.int .i64 0, .int .i64 0, .int .i64 0, .int .i64 0, .int .i64 0, .int .i64 0, .int .i64 0, .int .i64 0, .int .i64 0, .int .i64 0, .int .i64 0, .int .i64 0, .int .i64 0, .int .i64 0, .int .i64 0, .int .i64 0] 23)) w8.heap.size 16 23 (fun _ => 0) by rw [← zero16]; exact Blk.new _ _ _ _)
      obtain ⟨w9, hw⟩ : ∃ w9, w9 = (w8.alloc (.cells #[.int .i64 0, .int .i64 0, .int .i64 0, .int .i64 0, .int .i64 0, .int .i64 0, .int .i64 0, .int .i64 0, .int .i64 0, .int .i64 0, .int .i64 0, .int .i64 0, .int .i64 0, .int .i64 0, .int .i64 0, .int .i64 0] 23)).setRow w8.heap.size (VN 16 (invI (fun i => if i = 0 then z else 0))) := ⟨_, rfl⟩
      have hV : Blk w9 w8.heap.size 16 23 (invI (fun i => if i = 0 then z else 0)) := by rw [hw]; exact HN.out.setRow _
      have hw9 : Below w8.heap.size w8 w9 := by rw [hw]; exact below_setRow ((Below.refl _ _).alloc (Nat.le_refl _) _) (Nat.le_refl _) _
      have zw9 : w8.heap.size < w9.heap.size := by rw [hw]; simp
      have HW := Lib.hid hw; clear hw
      replace HB := Lib.hid (HB.out.trans (hw9.mono (by omega)))
      replace Vb := Lib.hid (Vb.out.below hw9 (by omega))
      replace Vc := Lib.hid (Vc.out.below hw9 (by omega))
      replace Vf := Lib.hid (Vf.out.below hw9 (by omega))
      have Vy := Lib.hid hV; clear hV hw9
      go_wp2_with (refine store16 w8.heap.size _ HN.out rfl rfl rfl rfl ?_; rw [← HW.out])
      clear HW HN
      have VY : Hid (Blk w9 w8.heap.size 16 23 (fun _ => rnd16 (z))) := Vy.out.congr (fun j hj => inv_flat (z) (by omega) (by omega) j hj)
      clear Vy
      have e1 : IntKind.i64.wrap (16 * rnd16 (z)) = 16 * rnd16 (z) := IntWalk.i64_in _ (by omega)
      have e2 : IntKind.i64.wrap (16 * rnd16 (z) - (z)) = 16 * rnd16 (z) - (z) := IntWalk.i64_in _ (by omega)
      have ha : absI (16 * rnd16 (z) - (z)) ≤ 8 := by unfold absI; omega
      go_loopw [7] (fun i wr => ∃ j : Nat, j ≤ 16 ∧ i = .int .i64 j ∧ Blk wr (w8.heap.size) 16 23 (fun _ => rnd16 z) ∧ Blk wr (w6.heap.size) 16 23 (fun i => if i = 0 then z else 0) ∧ Below w.heap.size w wr) (fun i _ => 16 - (intOf i).toNat)
      case atStart => exact ⟨0, by omega, rfl, VY.out, Vf.out, HB.out⟩
      case round =>
        clear Vb Vc Vf VY HB
        obtain ⟨j, hj, rfl, hY, hF, hB⟩ := hrel
        by_cases hj16 : j < 16
        · have c1 : wr.cell? ⟨w8.heap.size, j, none⟩ = some (.int .i64 (rnd16 z)) := hY.cell j hj16
          have c0 : wr.cell? ⟨w8.heap.size, 0, none⟩ = some (.int .i64 (rnd16 z)) := hY.cell 0 (by omega)
          have cf : wr.cell? ⟨w6.heap.size, 0, none⟩ = some (.int .i64 z) := hF.cell 0 (by omega)
          have hj1 : (j : Int) < 16 := by omega
          have hj0 : (0 : Int) ≤ j := by omega
          go_wp2_with fail
          go_quiet ((go_at_call 15; exact quietL (labs_any _ _ (by omega) (by omega))))
          go_wp2_with fail
          go_roundw
          case rel => exact ⟨j + 1, by omega, by go_num, hY.drewN _, hF.drewN _, below_drewN hB _⟩
          case measure => simp [intOf]; omega
        · go_wp2_with fail
          refine (alive_any _).mono ?_; rintro e w10 ⟨rfl, hw10⟩
          go_wp2_with fail
          go_ret
          exact ⟨rfl, hB.trans (hw10.mono hB.size)⟩

theorem diff_neg (a b : Nat → Int) : ∀ k, k < 16 → diffB b a k = (fun i => -diffB a b i) k := fun k _ => by simp only [diffB]; omega
theorem cost_sym (a b : Nat → Int) : costI b a = costI a b := by
  unfold costI
  rw [Bool.and_comm, asum_congr 16 (fun k hk => app_congr (diff_neg a b) k), asum_congr 16 (fun k hk => app_neg (diffB a b) k hk), asum_neg]
/-- The least distance to 255 of the first k numbers; 255 of none. -/
def roomI (a : Nat → Int) : Nat → Int
  | 0 => 255
  | k + 1 => if 255 - a k < roomI a k then 255 - a k else roomI a k
theorem room_bd {a : Nat → Int} : ∀ k, (∀ j, j < k → 0 ≤ a j ∧ a j ≤ 255) → 0 ≤ roomI a k ∧ roomI a k ≤ 255 ∧ ∀ j, j < k → a j + roomI a k ≤ 255
  | 0, _ => ⟨by simp [roomI], by simp [roomI], fun j hj => absurd hj (by omega)⟩
  | k + 1, h => by
    have r := room_bd k (fun j hj => h j (by omega))
    have c := h k (by omega)
    simp only [roomI]
    refine ⟨by omega, by omega, fun j hj => ?_⟩
    by_cases e : j = k
    · subst e; omega
    · have := r.2.2 j (by omega); omega
theorem cost_up {a u : Nat → Int} {d : Int} (ha : smpB a 16 = true) (h0 : 0 ≤ d) (hu : ∀ k, k < 16 → u k = a k + d) (hs : ∀ k, k < 16 → a k + d ≤ 255) : costI a u = 4 * d := by
  have hsu : smpB u 16 = true := smpB_true (fun k hk => by have := smpB_out ha k hk; have := hs k hk; rw [hu k hk]; omega)
  unfold costI
  rw [ha, hsu]
  have e : ∀ k, k < 16 → diffB a u k = (fun _ => -d) k := fun k hk => by simp only [diffB]; rw [hu k hk]; omega
  rw [asum_congr 16 (fun k hk => app_congr e k), asum_const (-d)]
  have : absI (-d) = d := by unfold absI; omega
  rw [this]
  simp
  omega
theorem cost_same {a : Nat → Int} (ha : smpB a 16 = true) : costI a a = 0 := by
  have := cost_up (u := a) (d := 0) ha (by omega) (fun k _ => by omega) (fun k hk => by have := smpB_out ha k hk; omega)
  omega
theorem cost_neg {a b : Nat → Int} (h : ¬ costI a b < 0) : smpB a 16 = true := by
  unfold costI at h
  cases e : smpB a 16 with
  | true => rfl
  | false => rw [e] at h; simp at h
set_option maxRecDepth 100000 in
set_option maxHeartbeats 4000000 in
theorem FnTransformCost_walk (a : Option Addr) (len cap : Nat) (zs : List Int) (w : World) (h : IsRow .u8 w a len cap zs) :
    Calls Try.prog 7 #[.slice a len cap] w fun e w' => e = .returned (.bool true) ∧ Below w.heap.size w w' := by
  obtain ⟨hs, hm⟩ := h.bytes
  unfold maxLen at hm
  clear h
  by_cases hl : 1048576 < len
  · clear hs
    go_enter Try.func7, Try.ntmps7
    go_wp2
    go_ret
    exact ⟨rfl, Below.refl _ _⟩
  · have HS := Lib.hid hs; clear hs
    have HB := Lib.hid (Below.refl w.heap.size w)
    go_enter Try.func7, Try.ntmps7
    go_wp2_with fail
    refine (DrawTransformCost_any _ len _ _ HS.out (by omega)).mono ?_; rintro e w1 ⟨p, q, rfl, HWp, HWq, hw1⟩
    have zw1 : w.heap.size ≤ w1.heap.size := hw1.size
    replace HB := Lib.hid (HB.out.trans (hw1.mono (by omega)))
    clear hw1
    have HN1 := Lib.hid (show Blk ((w1.alloc (.cells #[.int .i64 0, .int .i64 0, .int .i64 0, .int .i64 0, .int .i64 0, .int .i64 0, .int .i64 0, .int .i64 0, .int .i64 0, .int .i64 0, .int .i64 0, .int .i64 0, .int .i64 0, .int .i64 0, .int .i64 0, .int .i64 0] 23)).alloc (.cells #[.int .i64 0, .int .i64 0, .int .i64 0, .int .i64 0, .int .i64 0, .int .i64 0, .int .i64 0, .int .i64 0, .int .i64 0, .int .i64 0, .int .i64 0, .int .i64 0, .int .i64 0, .int .i64 0, .int .i64 0, .int .i64 0] 23)) (w1.heap.size) 16 23 (fun _ => 0) by rw [← zero16]; exact (Blk.new _ _ _ _).alloc _)
    have HN2 := Lib.hid (show Blk (((w1.alloc (.cells #[.int .i64 0, .int .i64 0, .int .i64 0, .int .i64 0, .int .i64 0, .int .i64 0, .int .i64 0, .int .i64 0, .int .i64 0, .int .i64 0, .int .i64 0, .int .i64 0, .int .i64 0, .int .i64 0, .int .i64 0, .int .i64 0] 23)).alloc (.cells #[.int .i64 0, .int .i64 0, .int .i64 0, .int .i64 0, .int .i64 0, .int .i64 0, .int .i64 0, .int .i64 0, .int .i64 0, .int .i64 0, .int .i64 0, .int .i64 0, .int .i64 0, .int .i64 0, .int .i64 0, .int .i64 0] 23)).setRow (w1.heap.size) (VN 16 p)) (w1.heap.size + 1) 16 23 (fun _ => 0) from Blk.setRowOther (by rw [← zero16]; exact Blk.new' (by simp)) _ _ (by omega))
    obtain ⟨w2, hw⟩ : ∃ w2, w2 = (((w1.alloc (.cells #[.int .i64 0, .int .i64 0, .int .i64 0, .int .i64 0, .int .i64 0, .int .i64 0, .int .i64 0, .int .i64 0, .int .i64 0, .int .i64 0, .int .i64 0, .int .i64 0, .int .i64 0, .int .i64 0, .int .i64 0, .int .i64 0] 23)).alloc (.cells #[.int .i64 0, .int .i64 0, .int .i64 0, .int .i64 0, .int .i64 0, .int .i64 0, .int .i64 0, .int .i64 0, .int .i64 0, .int .i64 0, .int .i64 0, .int .i64 0, .int .i64 0, .int .i64 0, .int .i64 0, .int .i64 0] 23)).setRow (w1.heap.size) (VN 16 p)).setRow (w1.heap.size + 1) (VN 16 q) := ⟨_, rfl⟩
    have hV1 : Blk w2 (w1.heap.size) 16 23 p := by rw [hw]; exact (HN1.out.setRow _).setRowOther _ _ (by omega)
    have hV2 : Blk w2 (w1.heap.size + 1) 16 23 q := by rw [hw]; exact HN2.out.setRow _
    have hw2 : Below w1.heap.size w1 w2 := by rw [hw]; exact below_setRow (below_setRow (((Below.refl _ _).alloc (Nat.le_refl _) _).alloc (by simp) _) (Nat.le_refl _) _) (by omega) _
    have zw2 : w1.heap.size + 1 < w2.heap.size := by rw [hw]; simp
    have HW := Lib.hid hw; clear hw
    replace HB := Lib.hid (HB.out.trans (hw2.mono (by omega)))
    have Vp := Lib.hid hV1; have Vq := Lib.hid hV2; clear hV1 hV2 hw2
    go_wp2_with (first | refine store16 (w1.heap.size) p HN1.out rfl rfl rfl rfl ?_ | (refine store16 (w1.heap.size + 1) q HN2.out rfl rfl rfl rfl ?_; rw [← HW.out]) | refine load16 (w1.heap.size) Vp.out rfl rfl rfl ?_ | refine load16 (w1.heap.size + 1) Vq.out rfl rfl rfl ?_)
    clear HW HN1 HN2
    refine (iCost_any _ _ _).mono ?_; rintro e w3 ⟨rfl, hw3⟩
    have zw3 : w2.heap.size ≤ w3.heap.size := hw3.size
    replace HB := Lib.hid (HB.out.trans (hw3.mono (by omega)))
    replace Vp := Lib.hid (Vp.out.below hw3 (by omega))
    replace Vq := Lib.hid (Vq.out.below hw3 (by omega))
    clear hw3
    go_wp2_with (first | refine load16 (w1.heap.size) Vp.out rfl rfl rfl ?_ | refine load16 (w1.heap.size + 1) Vq.out rfl rfl rfl ?_)
    refine (sCost_any _ _ _).mono ?_; rintro e w4 ⟨rfl, hw4⟩
    have zw4 : w3.heap.size ≤ w4.heap.size := hw4.size
    replace HB := Lib.hid (HB.out.trans (hw4.mono (by omega)))
    replace Vp := Lib.hid (Vp.out.below hw4 (by omega))
    replace Vq := Lib.hid (Vq.out.below hw4 (by omega))
    clear hw4
    go_wp2_with (first | refine load16 (w1.heap.size) Vp.out rfl rfl rfl ?_ | refine load16 (w1.heap.size + 1) Vq.out rfl rfl rfl ?_)
    refine (iCost_any _ _ _).mono ?_; rintro e w5 ⟨rfl, hw5⟩
    have zw5 : w4.heap.size ≤ w5.heap.size := hw5.size
    replace HB := Lib.hid (HB.out.trans (hw5.mono (by omega)))
    replace Vp := Lib.hid (Vp.out.below hw5 (by omega))
    replace Vq := Lib.hid (Vq.out.below hw5 (by omega))
    clear hw5
    rw [cost_sym p q]
    by_cases hneg : costI p q < 0
    · go_wp2_with fail
      refine (alive_any _).mono ?_; rintro e w6 ⟨rfl, hw6⟩
      go_wp2_with fail
      go_ret
      exact ⟨rfl, HB.out.trans (hw6.mono HB.out.size)⟩
    · have hsm := cost_neg hneg
      have HM := Lib.hid hsm; have HSm := Lib.hid (smpB_out hsm); clear hsm
      have Vp0 := Vp
      have HN := Lib.hid (show Blk (w5.alloc (.cells #[.int .i64 0, .int .i64 0, .int .i64 0, .int .i64 0, .int .i64 0, .int .i64 0, .int .i64 0, .int .i64 0, .int .i64 0, .int .i64 0, .int .i64 0, .int .i64 0, .int .i64 0, .int .i64 0, .int .i64 0, .int .i64 0] 23)) w5.heap.size 16 23 (fun _ => 0) by rw [← zero16]; exact Blk.new _ _ _ _)
      obtain ⟨w7, hw⟩ : ∃ w7, w7 = (w5.alloc (.cells #[.int .i64 0, .int .i64 0, .int .i64 0, .int .i64 0, .int .i64 0, .int .i64 0, .int .i64 0, .int .i64 0, .int .i64 0, .int .i64 0, .int .i64 0, .int .i64 0, .int .i64 0, .int .i64 0, .int .i64 0, .int .i64 0] 23)).setRow w5.heap.size (VN 16 (p)) := ⟨_, rfl⟩
      have hV : Blk w7 w5.heap.size 16 23 (p) := by rw [hw]; exact HN.out.setRow _
      have hw7 : Below w5.heap.size w5 w7 := by rw [hw]; exact below_setRow ((Below.refl _ _).alloc (Nat.le_refl _) _) (Nat.le_refl _) _
      have zw7 : w5.heap.size < w7.heap.size := by rw [hw]; simp
      have HW := Lib.hid hw; clear hw
      replace HB := Lib.hid (HB.out.trans (hw7.mono (by omega)))
      replace Vp := Lib.hid (Vp.out.below hw7 (by omega))
      replace Vq := Lib.hid (Vq.out.below hw7 (by omega))
      have Vu := Lib.hid hV; clear hV hw7
      go_wp2_with (first | (refine store16 w5.heap.size _ HN.out rfl rfl rfl rfl ?_; rw [← HW.out]) | refine load16 (w1.heap.size) Vp0.out rfl rfl rfl ?_)
      clear HW HN
      clear Vp0
      go_loop [7, 8] (fun d i => ∃ k : Nat, k ≤ 16 ∧ i = .int .i64 k ∧ d = .int .i64 (roomI p k)) (fun _ i => 16 - (intOf i).toNat)
      case atStart => exact ⟨0, by omega, rfl, rfl⟩
      case round =>
        obtain ⟨k, hk, rfl, rfl⟩ := hrel
        have hrb := room_bd (a := p) k (fun j hj => HSm.out j (by omega))
        have hr0 := hrb.1
        have hr1 := hrb.2.1
        clear hrb
        by_cases hlt : k < 16
        · have c1 := Vp.out.cell k hlt
          have h1 := HSm.out k hlt
          have HE := Lib.hid (show roomI p (k + 1) = if 255 - p k < roomI p k then 255 - p k else roomI p k from rfl)
          by_cases hmn : 255 - p k < roomI p k
          all_goals
            go_wp2_with fail
            go_round
            case rel => exact ⟨k + 1, by omega, by go_num, by rw [HE.out]; first | rw [if_pos hmn] | rw [if_neg (by omega)]⟩
            case measure => simp [intOf]; omega
        · have hk16 : k = 16 := by omega
          obtain ⟨d, hd⟩ : ∃ d, d = roomI p k := ⟨_, rfl⟩
          have HRm := Lib.hid (show ∀ j, j < 16 → p j + d ≤ 255 by rw [hd, hk16]; exact (room_bd (a := p) 16 HSm.out).2.2)
          have hd0 : 0 ≤ d := by rw [hd]; exact hr0
          have hd1 : d ≤ 255 := by rw [hd]; exact hr1
          rw [← hd]
          clear hd hk16
          go_wp2_with fail
          go_loopw [9] (fun i wr => ∃ j : Nat, j ≤ 16 ∧ i = .int .i64 j ∧ Blk wr (w1.heap.size) 16 23 p ∧ Blk wr (w5.heap.size) 16 23 (fun i => if i < j then p i + d else p i) ∧ Below w.heap.size w wr) (fun i _ => 16 - (intOf i).toNat)
          case atStart => exact ⟨0, by omega, rfl, Vp.out, Vu.out, HB.out⟩
          case round =>
            clear Vp Vq Vu HB
            obtain ⟨wa, rfl⟩ : ∃ wa : World, wa = wr := ⟨_, rfl⟩
            obtain ⟨j, hj, rfl, hVp, hVu, hB⟩ := hrel
            have lp := hVp.lt
            have lu := hVu.lt
            have lw := hB.size
            by_cases hj16 : j < 16
            · have c1 := hVp.cell j hj16
              have c2 := hVu.cell j hj16
              have f2 := hVu.frozen j
              have h1 := HSm.out j hj16
              go_wp2_with fail
              go_roundw
              case rel =>
                refine ⟨j + 1, by omega, by go_num, hVp.other (by omega), (hVu.set j _).congr (fun i hi => ?_), hB.setCell (by simp; omega) _⟩
                by_cases e : i = j
                · subst e; rw [if_pos rfl, if_pos (by omega)]
                · by_cases e2 : i < j
                  · rw [if_neg e, if_pos e2, if_pos (by omega)]
                  · rw [if_neg e, if_neg e2, if_neg (by omega)]
              case measure => simp [intOf]; omega
            · have hV2 : Blk wa (w5.heap.size) 16 23 (fun i => p i + d) := hVu.congr (fun i hi => by rw [if_pos (by omega)])
              have Vp := Lib.hid hVp; have Vu := Lib.hid hV2; have HB := Lib.hid hB; clear hVp hVu hV2 hB
              go_wp2_with (refine load16 (w1.heap.size) Vp.out rfl rfl rfl ?_)
              refine (iCost_any _ _ _).mono ?_; rintro e w8 ⟨rfl, hw8⟩
              have zw8 : wa.heap.size ≤ w8.heap.size := hw8.size
              replace Vp := Lib.hid (Vp.out.below hw8 (by omega))
              replace Vu := Lib.hid (Vu.out.below hw8 (by omega))
              replace HB := Lib.hid (HB.out.trans (hw8.mono (by omega)))
              clear hw8
              have ec : (costI p p == 0) = true := by rw [cost_same HM.out]; rfl
              go_wp2_with (first | refine load16 (w1.heap.size) Vp.out rfl rfl rfl ?_ | refine load16 (w5.heap.size) Vu.out rfl rfl rfl ?_)
              refine (iCost_any _ _ _).mono ?_; rintro e wx ⟨rfl, hx⟩
              have ed : (costI p (fun i => p i + d) == 4 * d) = true := by rw [cost_up HM.out hd0 (fun _ _ => rfl) HRm.out]; simp
              go_wp2_with fail
              go_ret
              exact ⟨rfl, HB.out.trans (hx.mono HB.out.size)⟩

end Go.Proofs.Ytammofbncdmccaa
