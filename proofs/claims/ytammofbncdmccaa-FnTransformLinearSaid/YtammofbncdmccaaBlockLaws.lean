/- The walks of the laws on blocks whose argument is a code to draw from. -/
import Derived.Test.YtammofbncdmccaaDrawBlock2
import Derived.Test.YtammofbncdmccaaBlockMath
import Derived.Deep.RegionHeld3
namespace Go.Proofs.Ytammofbncdmccaa
open Go.RowKit

theorem fwd_ok {b : Nat → Int} (h : okB b 255 = true) : ∀ k, fwdI b k = appI b k := fun k => by unfold fwdI; rw [if_pos h]
theorem fwd_no {b : Nat → Int} (h : okB b 255 = false) : ∀ k, fwdI b k = 0 := fun k => by unfold fwdI; rw [h]; rfl
theorem fwd_energy {b : Nat → Int} (h : okB b 255 = true) : energyI (fwdI b) = 16 * energyI b ∧ 0 ≤ energyI b ∧ energyI b ≤ 266342400 := by
  have ho := okB_out h
  have h1 : okB b 4080 = true := okB_true (ok_mono (by omega) ho)
  have h2 : okB (fwdI b) 4080 = true := okB_true (fun k hk => by rw [fwd_ok h]; exact appI_bd ho k hk)
  have hbd := ener_bd b 16 (ok_mono (by omega) ho)
  unfold energyI
  rw [h1, h2, if_pos rfl, if_pos rfl, ener_congr 16 (fun k _ => fwd_ok h k), ener_app]
  exact ⟨rfl, hbd.1, hbd.2⟩
theorem inv_fwd {b : Nat → Int} (h : okB b 255 = true) : ∀ k, k < 16 → invI (fwdI b) k = b k := fun k hk => by
  have ho := okB_out h
  have h2 : okB (fwdI b) 4080 = true := okB_true (fun k hk => by rw [fwd_ok h]; exact appI_bd ho k hk)
  unfold invI
  rw [if_pos h2, app_congr (fun j _ => fwd_ok h j), app_twice b k hk, rnd16_mul]

set_option maxRecDepth 100000 in
set_option maxHeartbeats 4000000 in
theorem FnForwardTransform_walk (a : Option Addr) (len cap : Nat) (zs : List Int) (w : World) (h : IsRow .u8 w a len cap zs) :
    Calls Try.prog 6 #[.slice a len cap] w fun e w' => e = .returned (.bool true) ∧ Below w.heap.size w w' := by
  obtain ⟨hs, hm⟩ := h.bytes
  unfold maxLen at hm
  clear h
  by_cases hl : 1048576 < len
  · clear hs
    go_enter Try.func6, Try.ntmps6
    go_wp2
    go_ret
    exact ⟨rfl, Below.refl _ _⟩
  · have HS := Lib.hid hs; clear hs
    have HB := Lib.hid (Below.refl w.heap.size w)
    go_enter Try.func6, Try.ntmps6
    go_wp2_with fail
    refine (DrawForwardTransform_any _ len _ _ HS.out (by omega)).mono ?_; rintro e w1 ⟨b, rfl, HWi, hw1⟩
    have zw1 : w.heap.size ≤ w1.heap.size := hw1.size
    replace HB := Lib.hid (HB.out.trans (hw1.mono (by omega)))
    clear hw1
    have HN := Lib.hid (show Blk (w1.alloc (.cells #[.int .i64 0, .int .i64 0, .int .i64 0, .int .i64 0, .int .i64 0, .int .i64 0, .int .i64 0, .int .i64 0, .int .i64 0, .int .i64 0, .int .i64 0, .int .i64 0, .int .i64 0, .int .i64 0, .int .i64 0, .int .i64 0] 23)) w1.heap.size 16 23 (fun _ => 0) by rw [← zero16]; exact Blk.new _ _ _ _)
    obtain ⟨w2, hw⟩ : ∃ w2, w2 = (w1.alloc (.cells #[.int .i64 0, .int .i64 0, .int .i64 0, .int .i64 0, .int .i64 0, .int .i64 0, .int .i64 0, .int .i64 0, .int .i64 0, .int .i64 0, .int .i64 0, .int .i64 0, .int .i64 0, .int .i64 0, .int .i64 0, .int .i64 0] 23)).setRow w1.heap.size (VN 16 (b)) := ⟨_, rfl⟩
    have hV : Blk w2 w1.heap.size 16 23 (b) := by rw [hw]; exact HN.out.setRow _
    have hw2 : Below w1.heap.size w1 w2 := by rw [hw]; exact below_setRow ((Below.refl _ _).alloc (Nat.le_refl _) _) (Nat.le_refl _) _
    have zw2 : w1.heap.size < w2.heap.size := by rw [hw]; simp
    have HW := Lib.hid hw; clear hw
    replace HB := Lib.hid (HB.out.trans (hw2.mono (by omega)))
    have Vb := Lib.hid hV; clear hV hw2
    go_wp2_with (first | (refine store16 w1.heap.size _ HN.out rfl rfl rfl rfl ?_; rw [← HW.out]) | refine load16 (w1.heap.size) Vb.out rfl rfl rfl ?_)
    clear HW HN
    refine (iForward_any _ _).mono ?_; rintro e w3 ⟨rfl, hw3⟩
    have zw3 : w2.heap.size ≤ w3.heap.size := hw3.size
    replace HB := Lib.hid (HB.out.trans (hw3.mono (by omega)))
    replace Vb := Lib.hid (Vb.out.below hw3 (by omega))
    clear hw3
    have HN := Lib.hid (show Blk (w3.alloc (.cells #[.int .i64 0, .int .i64 0, .int .i64 0, .int .i64 0, .int .i64 0, .int .i64 0, .int .i64 0, .int .i64 0, .int .i64 0, .int .i64 0, .int .i64 0, .int .i64 0, .int .i64 0, .int .i64 0, .int .i64 0, .int .i64 0] 23)) w3.heap.size 16 23 (fun _ => 0) by rw [← zero16]; exact Blk.new _ _ _ _)
    obtain ⟨w4, hw⟩ : ∃ w4, w4 = (w3.alloc (.cells #[.int .i64 0, .int .i64 0, .int .i64 0, .int .i64 0, .int .i64 0, .int .i64 0, .int .i64 0, .int .i64 0, .int .i64 0, .int .i64 0, .int .i64 0, .int .i64 0, .int .i64 0, .int .i64 0, .int .i64 0, .int .i64 0] 23)).setRow w3.heap.size (VN 16 (fwdI b)) := ⟨_, rfl⟩
    have hV : Blk w4 w3.heap.size 16 23 (fwdI b) := by rw [hw]; exact HN.out.setRow _
    have hw4 : Below w3.heap.size w3 w4 := by rw [hw]; exact below_setRow ((Below.refl _ _).alloc (Nat.le_refl _) _) (Nat.le_refl _) _
    have zw4 : w3.heap.size < w4.heap.size := by rw [hw]; simp
    have HW := Lib.hid hw; clear hw
    replace HB := Lib.hid (HB.out.trans (hw4.mono (by omega)))
    replace Vb := Lib.hid (Vb.out.below hw4 (by omega))
    have Vc := Lib.hid hV; clear hV hw4
    go_wp2_with (refine store16 w3.heap.size _ HN.out rfl rfl rfl rfl ?_; rw [← HW.out])
    clear HW HN
    have he : ∀ w, (Op.equalIn 10000 23 (.agg (VN 16 (fwdI b))) (.agg (VN 16 (fwdI b)))).run Try.prog w = .ok true w := fun w => by rw [run_equal16, eqB_true (fun _ _ => rfl)]
    refine wp_region_held_drew (S := fun w' => Below w4.heap.size w4 w') (by kernel_rfl) (Below.refl _ _).drew (fun hw5 => ?_)
    have Vb0 := Vb
    have Vc0 := Vc
    generalize w4.drew = w5 at hw5 ⊢
    have zw5 : w4.heap.size ≤ w5.heap.size := hw5.size
    replace HB := Lib.hid (HB.out.trans (hw5.mono (by omega)))
    replace Vb := Lib.hid (Vb.out.below hw5 (by omega))
    replace Vc := Lib.hid (Vc.out.below hw5 (by omega))
    refine wpAnyH_take (i := 0) (v := .agg (VN 16 (fwdI b))) rfl (by kernel_rfl) (by kernel_rfl) (by kernel_rfl) (fun _ _ _ h => h) (yields16' (w3.heap.size) (fun _ h => Vc0.out.below h (by omega)) (by rfl) rfl rfl) hw5 ?_
    refine wpAnyH_take (i := 1) (v := .agg (VN 16 (b))) rfl (by kernel_rfl) (by kernel_rfl) (by kernel_rfl) (fun _ _ _ h => h) (yields16' (w1.heap.size) (fun _ h => Vb0.out.below h (by omega)) (by rfl) rfl rfl) hw5 ?_
    refine wpAnyH_ready (rs := [2]) (by kernel_rfl) (by simp) ?_
    refine AllReadyH.cons rfl (fun K hK => ?_) AllReadyH.nil
    go_simp
    refine (sForward_any _ _).mono ?_; rintro e w6 ⟨rfl, hw6⟩
    have zw6 : w5.heap.size ≤ w6.heap.size := hw6.size
    replace HB := Lib.hid (HB.out.trans (hw6.mono (by omega)))
    replace Vb := Lib.hid (Vb.out.below hw6 (by omega))
    replace Vc := Lib.hid (Vc.out.below hw6 (by omega))
    refine hK.out _ _ (hw5.trans (hw6.mono (by omega))) (fun Hw6 => ?_)
    clear hK K hw6 hw5
    refine wpAnyH_ready (rs := [3]) (by kernel_rfl) (by simp) ?_
    refine AllReadyH.cons rfl (fun K hK => ?_) AllReadyH.nil
    go_simp
    refine hK.out _ _ Hw6 (fun _ => ?_)
    clear hK K
    refine wpAnyH_done (by kernel_rfl) ?_ _
    clear Vb0
    clear Vc0
    clear Hw6
    clear he
    go_wp2_with fail
    go_loop [5] (fun i => ∃ k : Nat, k ≤ 16 ∧ i = .int .i64 k ∧ Hid (∀ j, j < k → -255 ≤ b j ∧ b j ≤ 255)) (fun i => 16 - (intOf i).toNat)
    case atStart => exact ⟨0, by omega, rfl, fun j hj => absurd hj (by omega)⟩
    case round =>
      obtain ⟨k, hk, rfl, HJ⟩ := hrel
      by_cases hlt : k < 16
      · have c1 := Vb.out.cell k hlt
        have hbk := HWi.out k hlt
        by_cases hb : -255 ≤ b k ∧ b k ≤ 255
        · have ha : absI (b k) ≤ 255 := by unfold absI; omega
          have hb1 := hb.1
          have hb2 := hb.2
          clear hb
          go_wp2_with fail
          refine (labs_any _ _ (by omega) (by omega)).mono ?_; rintro e _ ⟨rfl, rfl⟩
          go_wp2_with fail
          go_round
          case rel => exact ⟨k + 1, by omega, by go_num, fun j hj => by by_cases e : j = k; (subst e; omega); exact HJ.out j (by omega)⟩
          case measure => simp [intOf]; omega
        · have ha : 255 < absI (b k) := by unfold absI; omega
          have hok : okB b 255 = false := okB_false k hlt (by omega)
          have he : ∀ w, (Op.equalIn 10000 23 (.agg (VN 16 (fwdI b))) (.agg #[.int .i64 0, .int .i64 0, .int .i64 0, .int .i64 0, .int .i64 0, .int .i64 0, .int .i64 0, .int .i64 0, .int .i64 0, .int .i64 0, .int .i64 0, .int .i64 0, .int .i64 0, .int .i64 0, .int .i64 0, .int .i64 0])).run Try.prog w = .ok true w := fun w => by rw [run_equal16z, eqB_true (fun k _ => fwd_no hok k)]
          clear hok hb
          go_wp2_with fail
          refine (labs_any _ _ (by omega) (by omega)).mono ?_; rintro e _ ⟨rfl, rfl⟩
          go_wp2_with (refine load16 w3.heap.size Vc.out rfl rfl rfl ?_)
          refine (alive_any _).mono ?_; rintro e w7 ⟨rfl, hw7⟩
          go_wp2_with fail
          go_ret
          exact ⟨rfl, HB.out.trans (hw7.mono HB.out.size)⟩
      · have hok : okB b 255 = true := okB_true (fun j hj => HJ.out j (by omega))
        have hen := fwd_energy hok
        have e1 : IntKind.i64.wrap (16 * energyI b) = 16 * energyI b := IntWalk.i64_in _ (by omega)
        have e2 : (energyI (fwdI b) == 16 * energyI b) = true := by simp [hen.1]
        have he2 : ∀ w, (Op.equalIn 10000 23 (.agg (VN 16 (invI (fwdI b)))) (.agg (VN 16 (b)))).run Try.prog w = .ok true w := fun w => by rw [run_equal16, eqB_true (inv_fwd hok)]
        clear hen hok
        go_wp2_with fail
        refine wp_region_held_drew (S := fun w' => Below w6.heap.size w6 w') (by kernel_rfl) (Below.refl _ _).drew (fun hw8 => ?_)
        have Vb0 := Vb
        have Vc0 := Vc
        generalize w6.drew = w8 at hw8 ⊢
        have zw8 : w6.heap.size ≤ w8.heap.size := hw8.size
        replace HB := Lib.hid (HB.out.trans (hw8.mono (by omega)))
        replace Vb := Lib.hid (Vb.out.below hw8 (by omega))
        replace Vc := Lib.hid (Vc.out.below hw8 (by omega))
        refine wpAnyH_take (i := 0) (v := .agg (VN 16 (fwdI b))) rfl (by kernel_rfl) (by kernel_rfl) (by kernel_rfl) (fun _ _ _ h => h) (yields16' (w3.heap.size) (fun _ h => Vc0.out.below h (by omega)) (by rfl) rfl rfl) hw8 ?_
        refine wpAnyH_take (i := 2) (v := .agg (VN 16 (b))) rfl (by kernel_rfl) (by kernel_rfl) (by kernel_rfl) (fun _ _ _ h => h) (yields16' (w1.heap.size) (fun _ h => Vb0.out.below h (by omega)) (by rfl) rfl rfl) hw8 ?_
        refine wpAnyH_ready (rs := [1]) (by kernel_rfl) (by simp) ?_
        refine AllReadyH.cons rfl (fun K hK => ?_) AllReadyH.nil
        go_simp
        refine (iBlockEnergy_any _ _).mono ?_; rintro e w9 ⟨rfl, hw9⟩
        have zw9 : w8.heap.size ≤ w9.heap.size := hw9.size
        replace HB := Lib.hid (HB.out.trans (hw9.mono (by omega)))
        replace Vb := Lib.hid (Vb.out.below hw9 (by omega))
        replace Vc := Lib.hid (Vc.out.below hw9 (by omega))
        refine hK.out _ _ (hw8.trans (hw9.mono (by omega))) (fun Hw9 => ?_)
        clear hK K hw9 hw8
        refine wpAnyH_ready (rs := [3]) (by kernel_rfl) (by simp) ?_
        refine AllReadyH.cons rfl (fun K hK => ?_) AllReadyH.nil
        go_simp
        refine (iBlockEnergy_any _ _).mono ?_; rintro e w10 ⟨rfl, hw10⟩
        have zw10 : w9.heap.size ≤ w10.heap.size := hw10.size
        replace HB := Lib.hid (HB.out.trans (hw10.mono (by omega)))
        replace Vb := Lib.hid (Vb.out.below hw10 (by omega))
        replace Vc := Lib.hid (Vc.out.below hw10 (by omega))
        refine hK.out _ _ (Hw9.trans (hw10.mono (by omega))) (fun Hw10 => ?_)
        clear hK K hw10 Hw9
        refine wpAnyH_ready (rs := [4]) (by kernel_rfl) (by simp) ?_
        refine AllReadyH.cons rfl (fun K hK => ?_) AllReadyH.nil
        go_simp
        refine hK.out _ _ Hw10 (fun _ => ?_)
        clear hK K
        refine wpAnyH_ready (rs := [5]) (by kernel_rfl) (by simp) ?_
        refine AllReadyH.cons rfl (fun K hK => ?_) AllReadyH.nil
        go_simp
        refine hK.out _ _ Hw10 (fun _ => ?_)
        clear hK K
        refine wpAnyH_ready (rs := [6]) (by kernel_rfl) (by simp) ?_
        refine AllReadyH.cons rfl (fun K hK => ?_) AllReadyH.nil
        go_simp
        refine hK.out _ _ Hw10 (fun _ => ?_)
        clear hK K
        refine wpAnyH_take (i := 7) (v := .agg (VN 16 (fwdI b))) rfl (by kernel_rfl) (by kernel_rfl) (by kernel_rfl) (fun _ _ _ h => h) (yields16' (w3.heap.size) (fun _ h => Vc0.out.below h (by omega)) (by rfl) rfl rfl) Hw10 ?_
        refine wpAnyH_take (i := 9) (v := .agg (VN 16 (b))) rfl (by kernel_rfl) (by kernel_rfl) (by kernel_rfl) (fun _ _ _ h => h) (yields16' (w1.heap.size) (fun _ h => Vb0.out.below h (by omega)) (by rfl) rfl rfl) Hw10 ?_
        refine wpAnyH_ready (rs := [8]) (by kernel_rfl) (by simp) ?_
        refine AllReadyH.cons rfl (fun K hK => ?_) AllReadyH.nil
        go_simp
        refine (iInverse_any _ _).mono ?_; rintro e w11 ⟨rfl, hw11⟩
        have zw11 : w10.heap.size ≤ w11.heap.size := hw11.size
        replace HB := Lib.hid (HB.out.trans (hw11.mono (by omega)))
        replace Vb := Lib.hid (Vb.out.below hw11 (by omega))
        replace Vc := Lib.hid (Vc.out.below hw11 (by omega))
        refine hK.out _ _ (Hw10.trans (hw11.mono (by omega))) (fun Hw11 => ?_)
        clear hK K hw11 Hw10
        refine wpAnyH_ready (rs := [10]) (by kernel_rfl) (by simp) ?_
        refine AllReadyH.cons rfl (fun K hK => ?_) AllReadyH.nil
        go_simp
        refine hK.out _ _ Hw11 (fun _ => ?_)
        clear hK K
        refine wpAnyH_ready (rs := [11]) (by kernel_rfl) (by simp) ?_
        refine AllReadyH.cons rfl (fun K hK => ?_) AllReadyH.nil
        go_simp
        refine hK.out _ _ Hw11 (fun _ => ?_)
        clear hK K
        refine wpAnyH_ready (rs := [12]) (by kernel_rfl) (by simp) ?_
        refine AllReadyH.cons rfl (fun K hK => ?_) AllReadyH.nil
        go_simp
        refine hK.out _ _ Hw11 (fun _ => ?_)
        clear hK K
        refine wpAnyH_done (by kernel_rfl) ?_ _
        clear Vb0
        clear Vc0
        clear Hw11
        go_wp2_with fail
        go_ret
        exact ⟨rfl, HB.out⟩

def ssum (b : Nat → Int) : Nat → Int
  | 0 => 0
  | k + 1 => ssum b k + b k
theorem ssum_bd {b : Nat → Int} : ∀ k, (∀ j, j < k → -255 ≤ b j ∧ b j ≤ 255) → -(255 * k : Int) ≤ ssum b k ∧ ssum b k ≤ 255 * k
  | 0, _ => by simp [ssum]
  | k + 1, h => by
    have a := ssum_bd k (fun j hj => h j (by omega))
    have c := h k (by omega)
    simp only [ssum]
    omega
theorem fwd_first {b : Nat → Int} (h : okB b 255 = true) : fwdI b 0 = ssum b 16 := by
  rw [fwd_ok h, app_out]; simp only [ssum]; omega
theorem ok_neg {b : Nat → Int} (h : okB b 255 = true) : okB (fun i => -b i) 255 = true := okB_true (fun k hk => by have := okB_out h k hk; omega)
theorem fwd_neg {b : Nat → Int} (h : okB b 255 = true) : ∀ k, k < 16 → fwdI (fun i => -b i) k = -fwdI b k := fun k hk => by
  rw [fwd_ok (ok_neg h), fwd_ok h, app_neg b k hk]
set_option maxRecDepth 100000 in
set_option maxHeartbeats 4000000 in
theorem FnTransformLinear_walk (a : Option Addr) (len cap : Nat) (zs : List Int) (w : World) (h : IsRow .u8 w a len cap zs) :
    Calls Try.prog 4 #[.slice a len cap] w fun e w' => e = .returned (.bool true) ∧ Below w.heap.size w w' := by
  obtain ⟨hs, hm⟩ := h.bytes
  unfold maxLen at hm
  clear h
  by_cases hl : 1048576 < len
  · clear hs
    go_enter Try.func4, Try.ntmps4
    go_wp2
    go_ret
    exact ⟨rfl, Below.refl _ _⟩
  · have HS := Lib.hid hs; clear hs
    have HB := Lib.hid (Below.refl w.heap.size w)
    go_enter Try.func4, Try.ntmps4
    go_wp2_with fail
    refine (DrawForwardTransform_any _ len _ _ HS.out (by omega)).mono ?_; rintro e w1 ⟨b, rfl, HWi, hw1⟩
    have zw1 : w.heap.size ≤ w1.heap.size := hw1.size
    replace HB := Lib.hid (HB.out.trans (hw1.mono (by omega)))
    clear hw1
    have HN := Lib.hid (show Blk (w1.alloc (.cells #[.int .i64 0, .int .i64 0, .int .i64 0, .int .i64 0, .int .i64 0, .int .i64 0, .int .i64 0, .int .i64 0, .int .i64 0, .int .i64 0, .int .i64 0, .int .i64 0, .int .i64 0, .int .i64 0, .int .i64 0, .int .i64 0] 23)) w1.heap.size 16 23 (fun _ => 0) by rw [← zero16]; exact Blk.new _ _ _ _)
    obtain ⟨w2, hw⟩ : ∃ w2, w2 = (w1.alloc (.cells #[.int .i64 0, .int .i64 0, .int .i64 0, .int .i64 0, .int .i64 0, .int .i64 0, .int .i64 0, .int .i64 0, .int .i64 0, .int .i64 0, .int .i64 0, .int .i64 0, .int .i64 0, .int .i64 0, .int .i64 0, .int .i64 0] 23)).setRow w1.heap.size (VN 16 (b)) := ⟨_, rfl⟩
    have hV : Blk w2 w1.heap.size 16 23 (b) := by rw [hw]; exact HN.out.setRow _
    have hw2 : Below w1.heap.size w1 w2 := by rw [hw]; exact below_setRow ((Below.refl _ _).alloc (Nat.le_refl _) _) (Nat.le_refl _) _
    have zw2 : w1.heap.size < w2.heap.size := by rw [hw]; simp
    have HW := Lib.hid hw; clear hw
    replace HB := Lib.hid (HB.out.trans (hw2.mono (by omega)))
    have Vb := Lib.hid hV; clear hV hw2
    go_wp2_with (first | (refine store16 w1.heap.size _ HN.out rfl rfl rfl rfl ?_; rw [← HW.out]) | refine load16 (w1.heap.size) Vb.out rfl rfl rfl ?_)
    clear HW HN
    refine (iForward_any _ _).mono ?_; rintro e w3 ⟨rfl, hw3⟩
    have zw3 : w2.heap.size ≤ w3.heap.size := hw3.size
    replace HB := Lib.hid (HB.out.trans (hw3.mono (by omega)))
    replace Vb := Lib.hid (Vb.out.below hw3 (by omega))
    clear hw3
    have HN := Lib.hid (show Blk (w3.alloc (.cells #[.int .i64 0, .int .i64 0, .int .i64 0, .int .i64 0, .int .i64 0, .int .i64 0, .int .i64 0, .int .i64 0, .int .i64 0, .int .i64 0, .int .i64 0, .int .i64 0, .int .i64 0, .int .i64 0, .int .i64 0, .int .i64 0] 23)) w3.heap.size 16 23 (fun _ => 0) by rw [← zero16]; exact Blk.new _ _ _ _)
    obtain ⟨w4, hw⟩ : ∃ w4, w4 = (w3.alloc (.cells #[.int .i64 0, .int .i64 0, .int .i64 0, .int .i64 0, .int .i64 0, .int .i64 0, .int .i64 0, .int .i64 0, .int .i64 0, .int .i64 0, .int .i64 0, .int .i64 0, .int .i64 0, .int .i64 0, .int .i64 0, .int .i64 0] 23)).setRow w3.heap.size (VN 16 (fwdI b)) := ⟨_, rfl⟩
    have hV : Blk w4 w3.heap.size 16 23 (fwdI b) := by rw [hw]; exact HN.out.setRow _
    have hw4 : Below w3.heap.size w3 w4 := by rw [hw]; exact below_setRow ((Below.refl _ _).alloc (Nat.le_refl _) _) (Nat.le_refl _) _
    have zw4 : w3.heap.size < w4.heap.size := by rw [hw]; simp
    have HW := Lib.hid hw; clear hw
    replace HB := Lib.hid (HB.out.trans (hw4.mono (by omega)))
    replace Vb := Lib.hid (Vb.out.below hw4 (by omega))
    have Vc := Lib.hid hV; clear hV hw4
    go_wp2_with (refine store16 w3.heap.size _ HN.out rfl rfl rfl rfl ?_; rw [← HW.out])
    clear HW HN
    have he : ∀ w, (Op.equalIn 10000 23 (.agg (VN 16 (fwdI b))) (.agg (VN 16 (fwdI b)))).run Try.prog w = .ok true w := fun w => by rw [run_equal16, eqB_true (fun _ _ => rfl)]
    refine wp_region_held_drew (S := fun w' => Below w4.heap.size w4 w') (by kernel_rfl) (Below.refl _ _).drew (fun hw5 => ?_)
    have Vb0 := Vb
    have Vc0 := Vc
    generalize w4.drew = w5 at hw5 ⊢
    have zw5 : w4.heap.size ≤ w5.heap.size := hw5.size
    replace HB := Lib.hid (HB.out.trans (hw5.mono (by omega)))
    replace Vb := Lib.hid (Vb.out.below hw5 (by omega))
    replace Vc := Lib.hid (Vc.out.below hw5 (by omega))
    refine wpAnyH_take (i := 0) (v := .agg (VN 16 (fwdI b))) rfl (by kernel_rfl) (by kernel_rfl) (by kernel_rfl) (fun _ _ _ h => h) (yields16' (w3.heap.size) (fun _ h => Vc0.out.below h (by omega)) (by rfl) rfl rfl) hw5 ?_
    refine wpAnyH_take (i := 1) (v := .agg (VN 16 (b))) rfl (by kernel_rfl) (by kernel_rfl) (by kernel_rfl) (fun _ _ _ h => h) (yields16' (w1.heap.size) (fun _ h => Vb0.out.below h (by omega)) (by rfl) rfl rfl) hw5 ?_
    refine wpAnyH_ready (rs := [2]) (by kernel_rfl) (by simp) ?_
    refine AllReadyH.cons rfl (fun K hK => ?_) AllReadyH.nil
    go_simp
    refine (sForward_any _ _).mono ?_; rintro e w6 ⟨rfl, hw6⟩
    have zw6 : w5.heap.size ≤ w6.heap.size := hw6.size
    replace HB := Lib.hid (HB.out.trans (hw6.mono (by omega)))
    replace Vb := Lib.hid (Vb.out.below hw6 (by omega))
    replace Vc := Lib.hid (Vc.out.below hw6 (by omega))
    refine hK.out _ _ (hw5.trans (hw6.mono (by omega))) (fun Hw6 => ?_)
    clear hK K hw6 hw5
    refine wpAnyH_ready (rs := [3]) (by kernel_rfl) (by simp) ?_
    refine AllReadyH.cons rfl (fun K hK => ?_) AllReadyH.nil
    go_simp
    refine hK.out _ _ Hw6 (fun _ => ?_)
    clear hK K
    refine wpAnyH_done (by kernel_rfl) ?_ _
    clear Vb0
    clear Vc0
    clear Hw6
    clear he
    have HN := Lib.hid (show Blk (w6.alloc (.cells #[.int .i64 0, .int .i64 0, .int .i64 0, .int .i64 0, .int .i64 0, .int .i64 0, .int .i64 0, .int .i64 0, .int .i64 0, .int .i64 0, .int .i64 0, .int .i64 0, .int .i64 0, .int .i64 0, .int .i64 0, .int .i64 0] 23)) w6.heap.size 16 23 (fun _ => 0) by rw [← zero16]; exact Blk.new _ _ _ _)
    obtain ⟨w7, hw⟩ : ∃ w7, w7 = w6.alloc (.cells #[.int .i64 0, .int .i64 0, .int .i64 0, .int .i64 0, .int .i64 0, .int .i64 0, .int .i64 0, .int .i64 0, .int .i64 0, .int .i64 0, .int .i64 0, .int .i64 0, .int .i64 0, .int .i64 0, .int .i64 0, .int .i64 0] 23) := ⟨_, rfl⟩
    have hV : Blk w7 w6.heap.size 16 23 (fun _ => 0) := by rw [hw]; exact HN.out
    have hw7 : Below w6.heap.size w6 w7 := by rw [hw]; exact (Below.refl _ _).alloc (Nat.le_refl _) _
    have zw7 : w6.heap.size < w7.heap.size := by rw [hw]; simp
    have HW := Lib.hid hw; clear hw
    replace HB := Lib.hid (HB.out.trans (hw7.mono (by omega)))
    replace Vb := Lib.hid (Vb.out.below hw7 (by omega))
    replace Vc := Lib.hid (Vc.out.below hw7 (by omega))
    have Vn := Lib.hid hV; clear hV hw7
    go_wp2_with fail
    rw [← HW.out]
    clear HW HN
    go_loopw [6, 7] (fun s i wr => ∃ k : Nat, k ≤ 16 ∧ i = .int .i64 k ∧ s = .int .i64 (ssum b k) ∧ Blk wr w1.heap.size 16 23 b ∧ Blk wr w3.heap.size 16 23 (fwdI b) ∧ Blk wr w6.heap.size 16 23 (fun i => if i < k then -b i else 0) ∧ Below w.heap.size w wr ∧ Hid (∀ j, j < k → -255 ≤ b j ∧ b j ≤ 255)) (fun _ i _ => 16 - (intOf i).toNat)
    case atStart => exact ⟨0, by omega, rfl, rfl, Vb.out, Vc.out, Vn.out, HB.out, fun j hj => absurd hj (by omega)⟩
    case round =>
      clear Vb Vc Vn HB
      obtain ⟨wa, rfl⟩ : ∃ wa : World, wa = wr := ⟨_, rfl⟩
      obtain ⟨k, hk, rfl, rfl, hVb, hVc, hVn, hB, HJ⟩ := hrel
      have lb := hVb.lt
      have lc := hVc.lt
      have ln := hVn.lt
      have lw := hB.size
      by_cases hlt : k < 16
      · have c1 := hVb.cell k hlt
        have c2 := hVn.cell k hlt
        have f2 := hVn.frozen k
        have hbk := HWi.out k hlt
        have hsb := ssum_bd k HJ.out
        by_cases hb : -255 ≤ b k ∧ b k ≤ 255
        · have ha : absI (b k) ≤ 255 := by unfold absI; omega
          have hb1 := hb.1
          have hb2 := hb.2
          clear hb
          go_wp2_with fail
          refine (labs_any _ _ (by omega) (by omega)).mono ?_; rintro e _ ⟨rfl, rfl⟩
          go_wp2_with fail
          go_roundw
          case rel =>
            refine ⟨k + 1, by omega, by go_num, rfl, hVb.other (by omega), hVc.other (by omega), (hVn.set k _).congr (fun j hj => ?_), hB.setCell (by simp; omega) _, fun j hj => by by_cases e : j = k; (subst e; omega); exact HJ.out j (by omega)⟩
            by_cases e : j = k
            · subst e; rw [if_pos rfl, if_pos (by omega)]
            · by_cases e2 : j < k
              · rw [if_neg e, if_pos e2, if_pos (by omega)]
              · rw [if_neg e, if_neg e2, if_neg (by omega)]
          case measure => simp [intOf]; omega
        · have ha : 255 < absI (b k) := by unfold absI; omega
          clear hb
          go_wp2_with fail
          refine (labs_any _ _ (by omega) (by omega)).mono ?_; rintro e _ ⟨rfl, rfl⟩
          go_wp2_with fail
          refine (alive_any _).mono ?_; rintro e wx ⟨rfl, hx⟩
          go_wp2_with fail
          go_ret
          exact ⟨rfl, hB.trans (hx.mono lw)⟩
      · have hok : okB b 255 = true := okB_true (fun j hj => HJ.out j (by omega))
        have HO := Lib.hid hok; clear hok
        have hV2 : Blk wa w6.heap.size 16 23 (fun i => -b i) := hVn.congr (fun j hj => by rw [if_pos (by omega)])
        have Vb := Lib.hid hVb; have Vc := Lib.hid hVc; have Vn := Lib.hid hV2; have HB := Lib.hid hB; clear hVb hVc hVn hV2 hB
        have es : ssum b k = ssum b 16 := by rw [show k = 16 by omega]
        have ES := Lib.hid es; clear es
        go_wp2_with (refine load16 w6.heap.size Vn.out rfl rfl rfl ?_)
        refine (iForward_any _ _).mono ?_; rintro e w8 ⟨rfl, hw8⟩
        have zw8 : wa.heap.size ≤ w8.heap.size := hw8.size
        replace Vb := Lib.hid (Vb.out.below hw8 (by omega))
        replace Vc := Lib.hid (Vc.out.below hw8 (by omega))
        replace Vn := Lib.hid (Vn.out.below hw8 (by omega))
        replace HB := Lib.hid (HB.out.trans (hw8.mono (by omega)))
        clear hw8
        have HN := Lib.hid (show Blk (w8.alloc (.cells #[.int .i64 0, .int .i64 0, .int .i64 0, .int .i64 0, .int .i64 0, .int .i64 0, .int .i64 0, .int .i64 0, .int .i64 0, .int .i64 0, .int .i64 0, .int .i64 0, .int .i64 0, .int .i64 0, .int .i64 0, .int .i64 0] 23)) w8.heap.size 16 23 (fun _ => 0) by rw [← zero16]; exact Blk.new _ _ _ _)
        obtain ⟨w9, hw⟩ : ∃ w9, w9 = (w8.alloc (.cells #[.int .i64 0, .int .i64 0, .int .i64 0, .int .i64 0, .int .i64 0, .int .i64 0, .int .i64 0, .int .i64 0, .int .i64 0, .int .i64 0, .int .i64 0, .int .i64 0, .int .i64 0, .int .i64 0, .int .i64 0, .int .i64 0] 23)).setRow w8.heap.size (VN 16 (fwdI (fun i => -b i))) := ⟨_, rfl⟩
        have hV : Blk w9 w8.heap.size 16 23 (fwdI (fun i => -b i)) := by rw [hw]; exact HN.out.setRow _
        have hw9 : Below w8.heap.size w8 w9 := by rw [hw]; exact below_setRow ((Below.refl _ _).alloc (Nat.le_refl _) _) (Nat.le_refl _) _
        have zw9 : w8.heap.size < w9.heap.size := by rw [hw]; simp
        have HW := Lib.hid hw; clear hw
        replace Vb := Lib.hid (Vb.out.below hw9 (by omega))
        replace Vc := Lib.hid (Vc.out.below hw9 (by omega))
        replace Vn := Lib.hid (Vn.out.below hw9 (by omega))
        replace HB := Lib.hid (HB.out.trans (hw9.mono (by omega)))
        have Vd := Lib.hid hV; clear hV hw9
        go_wp2_with (refine store16 w8.heap.size _ HN.out rfl rfl rfl rfl ?_; rw [← HW.out])
        clear HW HN
        have VD := Lib.hid (Vd.out.congr (fun j hj => fwd_neg HO.out j hj)); clear Vd
        go_loopw [9] (fun i wr => ∃ j m : Nat, j ≤ 16 ∧ i = .int .i64 j ∧ wr = w9.drewN m) (fun i _ => 16 - (intOf i).toNat)
        case atStart => exact ⟨0, 0, by omega, rfl, rfl⟩
        case round =>
          obtain ⟨j, m, hj, rfl, rfl⟩ := hrel
          by_cases hj16 : j < 16
          · have c1 := VD.out.cell j hj16
            have c2 := Vc.out.cell j hj16
            have hj1 : (j : Int) < 16 := by omega
            have hj0 : (0 : Int) ≤ j := by omega
            have hfb : -4080 ≤ fwdI b j ∧ fwdI b j ≤ 4080 := by rw [fwd_ok HO.out]; exact appI_bd (okB_out HO.out) j hj16
            have e1 : IntKind.i64.wrap (-fwdI b j) = -fwdI b j := IntWalk.i64_in _ (by omega)
            go_wp2_with fail
            go_quiet (fail)
            go_wp2_with fail
            go_roundw
            case rel => exact ⟨j + 1, _, by omega, by go_num, rfl⟩
            case measure => simp [intOf]; omega
          · have c0 := Vc.out.cell 0 (by omega)
            rw [fwd_first HO.out, ← ES.out] at c0
            go_wp2_with fail
            go_ret
            exact ⟨rfl, below_drewN HB.out m⟩

theorem energy_neg (b : Nat → Int) : energyI (fun i => -b i) = energyI b := by
  have e : okB (fun i => -b i) 4080 = okB b 4080 := by
    cases h : okB b 4080 with
    | true => exact okB_true (fun k hk => by have := okB_out h k hk; omega)
    | false =>
      cases h2 : okB (fun i => -b i) 4080 with
      | false => rfl
      | true =>
        have : okB b 4080 = true := okB_true (fun k hk => by have := okB_out h2 k hk; omega)
        rw [h] at this; cases this
  unfold energyI
  rw [e, ener_neg]
theorem energy_zero (b : Nat → Int) : (energyI b == 0) = eqB b (fun _ => 0) := by
  rw [Bool.eq_iff_iff]
  simp only [beq_iff_eq]
  constructor
  · intro h
    unfold energyI at h
    by_cases e : okB b 4080 = true
    · rw [if_pos e] at h; exact eqB_true (ener_zero b 16 h)
    · rw [if_neg e] at h; omega
  · intro h
    have hz := eqB_out h
    unfold energyI
    rw [if_pos (okB_true (fun k hk => by rw [hz k hk]; omega)), ener_congr 16 hz]
    rfl
theorem energy_bd (b : Nat → Int) : -1 ≤ energyI b ∧ energyI b ≤ 266342400 := by
  unfold energyI
  by_cases e : okB b 4080 = true
  · rw [if_pos e]; have := ener_bd b 16 (okB_out e); omega
  · rw [if_neg e]; omega
set_option maxRecDepth 100000 in
set_option maxHeartbeats 4000000 in
theorem FnBlockEnergy_walk (a : Option Addr) (len cap : Nat) (zs : List Int) (w : World) (h : IsRow .u8 w a len cap zs) :
    Calls Try.prog 3 #[.slice a len cap] w fun e w' => e = .returned (.bool true) ∧ Below w.heap.size w w' := by
  obtain ⟨hs, hm⟩ := h.bytes
  unfold maxLen at hm
  clear h
  by_cases hl : 1048576 < len
  · clear hs
    go_enter Try.func3, Try.ntmps3
    go_wp2
    go_ret
    exact ⟨rfl, Below.refl _ _⟩
  · have HS := Lib.hid hs; clear hs
    have HB := Lib.hid (Below.refl w.heap.size w)
    go_enter Try.func3, Try.ntmps3
    go_wp2_with fail
    refine (DrawBlockEnergy_any _ len _ _ HS.out (by omega)).mono ?_; rintro e w1 ⟨b, rfl, HWi, hw1⟩
    have zw1 : w.heap.size ≤ w1.heap.size := hw1.size
    replace HB := Lib.hid (HB.out.trans (hw1.mono (by omega)))
    clear hw1
    have HN := Lib.hid (show Blk (w1.alloc (.cells #[.int .i64 0, .int .i64 0, .int .i64 0, .int .i64 0, .int .i64 0, .int .i64 0, .int .i64 0, .int .i64 0, .int .i64 0, .int .i64 0, .int .i64 0, .int .i64 0, .int .i64 0, .int .i64 0, .int .i64 0, .int .i64 0] 23)) w1.heap.size 16 23 (fun _ => 0) by rw [← zero16]; exact Blk.new _ _ _ _)
    obtain ⟨w2, hw⟩ : ∃ w2, w2 = (w1.alloc (.cells #[.int .i64 0, .int .i64 0, .int .i64 0, .int .i64 0, .int .i64 0, .int .i64 0, .int .i64 0, .int .i64 0, .int .i64 0, .int .i64 0, .int .i64 0, .int .i64 0, .int .i64 0, .int .i64 0, .int .i64 0, .int .i64 0] 23)).setRow w1.heap.size (VN 16 (b)) := ⟨_, rfl⟩
    have hV : Blk w2 w1.heap.size 16 23 (b) := by rw [hw]; exact HN.out.setRow _
    have hw2 : Below w1.heap.size w1 w2 := by rw [hw]; exact below_setRow ((Below.refl _ _).alloc (Nat.le_refl _) _) (Nat.le_refl _) _
    have zw2 : w1.heap.size < w2.heap.size := by rw [hw]; simp
    have HW := Lib.hid hw; clear hw
    replace HB := Lib.hid (HB.out.trans (hw2.mono (by omega)))
    have Vb := Lib.hid hV; clear hV hw2
    go_wp2_with (first | (refine store16 w1.heap.size _ HN.out rfl rfl rfl rfl ?_; rw [← HW.out]) | refine load16 (w1.heap.size) Vb.out rfl rfl rfl ?_)
    clear HW HN
    refine (iBlockEnergy_any _ _).mono ?_; rintro e w3 ⟨rfl, hw3⟩
    have zw3 : w2.heap.size ≤ w3.heap.size := hw3.size
    replace HB := Lib.hid (HB.out.trans (hw3.mono (by omega)))
    replace Vb := Lib.hid (Vb.out.below hw3 (by omega))
    clear hw3
    go_wp2_with (refine load16 w1.heap.size Vb.out rfl rfl rfl ?_)
    refine (sBlockEnergy_any _ _).mono ?_; rintro e w4 ⟨rfl, hw4⟩
    have zw4 : w3.heap.size ≤ w4.heap.size := hw4.size
    replace HB := Lib.hid (HB.out.trans (hw4.mono (by omega)))
    replace Vb := Lib.hid (Vb.out.below hw4 (by omega))
    clear hw4
    have HN := Lib.hid (show Blk (w4.alloc (.cells #[.int .i64 0, .int .i64 0, .int .i64 0, .int .i64 0, .int .i64 0, .int .i64 0, .int .i64 0, .int .i64 0, .int .i64 0, .int .i64 0, .int .i64 0, .int .i64 0, .int .i64 0, .int .i64 0, .int .i64 0, .int .i64 0] 23)) w4.heap.size 16 23 (fun _ => 0) by rw [← zero16]; exact Blk.new _ _ _ _)
    obtain ⟨w5, hw⟩ : ∃ w5, w5 = w4.alloc (.cells #[.int .i64 0, .int .i64 0, .int .i64 0, .int .i64 0, .int .i64 0, .int .i64 0, .int .i64 0, .int .i64 0, .int .i64 0, .int .i64 0, .int .i64 0, .int .i64 0, .int .i64 0, .int .i64 0, .int .i64 0, .int .i64 0] 23) := ⟨_, rfl⟩
    have hV : Blk w5 w4.heap.size 16 23 (fun _ => 0) := by rw [hw]; exact HN.out
    have hw5 : Below w4.heap.size w4 w5 := by rw [hw]; exact (Below.refl _ _).alloc (Nat.le_refl _) _
    have zw5 : w4.heap.size < w5.heap.size := by rw [hw]; simp
    have HW := Lib.hid hw; clear hw
    replace HB := Lib.hid (HB.out.trans (hw5.mono (by omega)))
    replace Vb := Lib.hid (Vb.out.below hw5 (by omega))
    have Vn := Lib.hid hV; clear hV hw5
    go_wp2_with fail
    rw [← HW.out]
    clear HW HN
    go_loopw [6] (fun i wr => ∃ k : Nat, k ≤ 16 ∧ i = .int .i64 k ∧ Blk wr w1.heap.size 16 23 b ∧ Blk wr w4.heap.size 16 23 (fun i => if i < k then -b i else 0) ∧ Below w.heap.size w wr) (fun i _ => 16 - (intOf i).toNat)
    case atStart => exact ⟨0, by omega, rfl, Vb.out, Vn.out, HB.out⟩
    case round =>
      clear Vb Vn HB
      obtain ⟨wa, rfl⟩ : ∃ wa : World, wa = wr := ⟨_, rfl⟩
      obtain ⟨k, hk, rfl, hVb, hVn, hB⟩ := hrel
      have lb := hVb.lt
      have ln := hVn.lt
      have lw := hB.size
      by_cases hlt : k < 16
      · have c1 := hVb.cell k hlt
        have c2 := hVn.cell k hlt
        have f2 := hVn.frozen k
        have hbk := HWi.out k hlt
        go_wp2_with fail
        go_roundw
        case rel =>
          refine ⟨k + 1, by omega, by go_num, hVb.other (by omega), (hVn.set k _).congr (fun j hj => ?_), hB.setCell (by simp; omega) _⟩
          by_cases e : j = k
          · subst e; rw [if_pos rfl, if_pos (by omega)]
          · by_cases e2 : j < k
            · rw [if_neg e, if_pos e2, if_pos (by omega)]
            · rw [if_neg e, if_neg e2, if_neg (by omega)]
        case measure => simp [intOf]; omega
      · have hV2 : Blk wa w4.heap.size 16 23 (fun i => -b i) := hVn.congr (fun j hj => by rw [if_pos (by omega)])
        have Vb := Lib.hid hVb; have Vn := Lib.hid hV2; have HB := Lib.hid hB; clear hVb hVn hV2 hB
        go_wp2_with (refine load16 w4.heap.size Vn.out rfl rfl rfl ?_)
        refine (iBlockEnergy_any _ _).mono ?_; rintro e w6 ⟨rfl, hw6⟩
        have zw6 : wa.heap.size ≤ w6.heap.size := hw6.size
        replace Vb := Lib.hid (Vb.out.below hw6 (by omega))
        replace Vn := Lib.hid (Vn.out.below hw6 (by omega))
        replace HB := Lib.hid (HB.out.trans (hw6.mono (by omega)))
        clear hw6
        have e1 : (energyI (fun i => -b i) == energyI b) = true := by rw [energy_neg]; simp
        have e2 := energy_zero b
        have he : ∀ w, (Op.equalIn 10000 23 (.agg (VN 16 b)) (.agg #[.int .i64 0, .int .i64 0, .int .i64 0, .int .i64 0, .int .i64 0, .int .i64 0, .int .i64 0, .int .i64 0, .int .i64 0, .int .i64 0, .int .i64 0, .int .i64 0, .int .i64 0, .int .i64 0, .int .i64 0, .int .i64 0])).run Try.prog w = .ok (eqB b (fun _ => 0)) w := fun w => run_equal16z b w
        generalize eqB b (fun _ => 0) = tz at *
        go_wp2_with (refine load16 w1.heap.size Vb.out rfl rfl rfl ?_)
        refine (alive_any _).mono ?_; rintro e w7 ⟨rfl, hw7⟩
        go_wp2_with fail
        go_ret
        exact ⟨rfl, HB.out.trans (hw7.mono (by omega))⟩

end Go.Proofs.Ytammofbncdmccaa
