/- The walks of the exact laws on bits. -/
import Derived.Test.YthefdndbbnfaiaaPack
import Derived.Test.YthefdndbbnfaiaaOpenPic
namespace Go.Proofs.Ythefdndbbnfaiaa
open Go.RowKit

set_option maxRecDepth 100000 in
theorem FnExactUnpackBits_walk (a : Option Addr) (len cap : Nat) (zs : List Int) (n : Int) (w : World) (h : IsRow .u8 w a len cap zs) (_hn : (Lit.int .i64 n).wf = true) :
    Calls Try.prog 3 #[.slice a len cap, .int .i64 n] w fun e w' => e = .returned (.bool true) ∧ Below w.heap.size w w' := by
  obtain ⟨hs, hm, hwf⟩ := h.sr
  unfold maxLen at hm
  clear h _hn
  by_cases hl : 1048576 < len
  · clear hs hwf
    go_enter Try.func3, Try.ntmps3
    go_wp2
    go_ret
    exact ⟨rfl, Below.refl _ _⟩
  · obtain ⟨b, hs, hw⟩ : ∃ b, Sr .u8 w.heap.size w (.slice a len cap) len b ∧ ∀ i, i < len → 0 ≤ b i ∧ b i ≤ 255 := ⟨_, hs, fun i hi => bounds_u8 (hwf i hi)⟩
    have HW := Lib.hid hw; clear hwf hw
    have hl : len ≤ 1048576 := by omega
    have hN : unpN n len ≤ 8388608 := by unfold unpN; split <;> omega
    have HA := Lib.hid hs; clear hs
    have HB := Lib.hid (Below.refl w.heap.size w)
    go_enter Try.func3, Try.ntmps3
    go_wp2_with fail
    refine (toByteS_any _ len _ _ (HA.out.mono (by omega)) (by omega)).mono ?_; rintro e w1 ⟨g1, rfl, k1, b1, hw1⟩
    have zw1 : w.heap.size ≤ w1.heap.size := hw1.size
    replace HA := Lib.hid (HA.out.below hw1 (by omega))
    replace HB := Lib.hid (HB.out.trans (hw1.mono (by omega)))
    clear hw1
    have S1 := Lib.hid (MadeByte.sn k1 b1); clear k1 b1
    go_wp2_with fail
    refine (sUnpackBits_any _ len _ _ _ (S1.out.sr) HW.out hl).mono ?_; rintro e w2 ⟨v0, rfl, r0, hw2⟩
    have zw2 : w1.heap.size ≤ w2.heap.size := hw2.size
    replace HA := Lib.hid (HA.out.below hw2 (by omega))
    replace HB := Lib.hid (HB.out.trans (hw2.mono (by omega)))
    replace S1 := Lib.hid (S1.out.below hw2 (by omega))
    clear hw2
    have R0 := Lib.hid r0; clear r0
    clear S1
    go_wp2_with fail
    refine (toByteS_any _ len _ _ (HA.out.mono (by omega)) (by omega)).mono ?_; rintro e w3 ⟨g2, rfl, k2, b2, hw3⟩
    have zw3 : w2.heap.size ≤ w3.heap.size := hw3.size
    replace HA := Lib.hid (HA.out.below hw3 (by omega))
    replace HB := Lib.hid (HB.out.trans (hw3.mono (by omega)))
    replace R0 := Lib.hid (R0.out.below hw3 (by omega))
    clear hw3
    have S2 := Lib.hid (MadeByte.sn k2 b2); clear k2 b2
    go_wp2_with fail
    refine (iUnpackBits_any _ len _ _ _ (S2.out.sr) HW.out hl).mono ?_; rintro e w4 ⟨v1, rfl, r1, hw4⟩
    have zw4 : w3.heap.size ≤ w4.heap.size := hw4.size
    replace HA := Lib.hid (HA.out.below hw4 (by omega))
    replace HB := Lib.hid (HB.out.trans (hw4.mono (by omega)))
    replace R0 := Lib.hid (R0.out.below hw4 (by omega))
    replace S2 := Lib.hid (S2.out.below hw4 (by omega))
    clear hw4
    have R1 := Lib.hid r1; clear r1
    go_wp2_with fail
    refine (eqIntS_yes _ _ _ _ _ _ (R1.out.sr.mono (by omega)) (R0.out.sr.mono (by omega)) (fun _ _ => rfl) (by omega)).mono ?_; rintro e w5 ⟨rfl, hw5⟩
    have zw5 : w4.heap.size ≤ w5.heap.size := hw5.size
    replace HA := Lib.hid (HA.out.below hw5 (by omega))
    replace HB := Lib.hid (HB.out.trans (hw5.mono (by omega)))
    replace R0 := Lib.hid (R0.out.below hw5 (by omega))
    replace S2 := Lib.hid (S2.out.below hw5 (by omega))
    replace R1 := Lib.hid (R1.out.below hw5 (by omega))
    clear hw5
    go_wp2_with fail
    refine (toByteS_any _ len _ _ (HA.out.mono (by omega)) (by omega)).mono ?_; rintro e w6 ⟨g3, rfl, k3, b3, hw6⟩
    have zw6 : w5.heap.size ≤ w6.heap.size := hw6.size
    replace HA := Lib.hid (HA.out.below hw6 (by omega))
    replace HB := Lib.hid (HB.out.trans (hw6.mono (by omega)))
    replace R0 := Lib.hid (R0.out.below hw6 (by omega))
    replace S2 := Lib.hid (S2.out.below hw6 (by omega))
    replace R1 := Lib.hid (R1.out.below hw6 (by omega))
    clear hw6
    have S3 := Lib.hid (MadeByte.sn k3 b3); clear k3 b3
    go_wp2_with fail
    refine (eqByteS_yes _ _ len _ _ _ (S2.out.sr.mono (by omega)) (S3.out.sr.mono (by omega)) (fun _ _ => rfl) (by omega)).mono ?_; rintro e w7 ⟨rfl, hw7⟩
    have zw7 : w6.heap.size ≤ w7.heap.size := hw7.size
    replace HA := Lib.hid (HA.out.below hw7 (by omega))
    replace HB := Lib.hid (HB.out.trans (hw7.mono (by omega)))
    replace R0 := Lib.hid (R0.out.below hw7 (by omega))
    replace S2 := Lib.hid (S2.out.below hw7 (by omega))
    replace R1 := Lib.hid (R1.out.below hw7 (by omega))
    replace S3 := Lib.hid (S3.out.below hw7 (by omega))
    clear hw7
    clear S3
    go_wp2_with fail
    refine (markByteS_any _ len _ _ _ 1 _ S2.out (by omega) (by omega) (by omega)).mono ?_; rintro e w8 ⟨rfl, _, hw8⟩
    clear S2
    have zw8 : w7.heap.size ≤ w8.heap.size := by rw [hw8.size]; exact Nat.le_refl _
    have yw8 : w8.heap.size ≤ w7.heap.size := by rw [hw8.size]; exact Nat.le_refl _
    replace HA := Lib.hid (HA.out.mod hw8 (by omega))
    replace HB := Lib.hid (HB.out.trans (hw8.below (by omega)))
    replace R0 := Lib.hid (R0.out.mod hw8 (by omega))
    replace R1 := Lib.hid (R1.out.mod hw8 (by omega))
    clear hw8
    go_wp2_with fail
    refine (eqIntS_yes _ _ _ _ _ _ (R1.out.sr.mono (by omega)) (R0.out.sr.mono (by omega)) (fun _ _ => rfl) (by omega)).mono ?_; rintro e w9 ⟨rfl, hw9⟩
    have zw9 : w8.heap.size ≤ w9.heap.size := hw9.size
    replace HA := Lib.hid (HA.out.below hw9 (by omega))
    replace HB := Lib.hid (HB.out.trans (hw9.mono (by omega)))
    replace R0 := Lib.hid (R0.out.below hw9 (by omega))
    replace R1 := Lib.hid (R1.out.below hw9 (by omega))
    clear hw9
    go_wp2_with fail
    refine (markIntS_any _ _ _ _ _ 1 _ R1.out (by omega) (by omega) (by omega)).mono ?_; rintro e w10 ⟨rfl, r1, hw10⟩
    clear R1
    have zw10 : w9.heap.size ≤ w10.heap.size := by rw [hw10.size]; exact Nat.le_refl _
    have yw10 : w10.heap.size ≤ w9.heap.size := by rw [hw10.size]; exact Nat.le_refl _
    replace HA := Lib.hid (HA.out.mod hw10 (by omega))
    replace HB := Lib.hid (HB.out.trans (hw10.below (by omega)))
    replace R0 := Lib.hid (R0.out.mod hw10 (by omega))
    clear hw10
    have R1 := Lib.hid r1; clear r1
    go_wp2_with fail
    refine (heldIntS_any _ _ _ 1 _ R1.out.sr (by omega) (by omega) (by omega)).mono ?_; rintro e w11 ⟨rfl, hw11⟩
    have zw11 : w10.heap.size ≤ w11.heap.size := hw11.size
    replace HA := Lib.hid (HA.out.below hw11 (by omega))
    replace HB := Lib.hid (HB.out.trans (hw11.mono (by omega)))
    replace R0 := Lib.hid (R0.out.below hw11 (by omega))
    replace R1 := Lib.hid (R1.out.below hw11 (by omega))
    clear hw11
    go_wp2_with fail
    refine (toByteS_any _ len _ _ (HA.out.mono (by omega)) (by omega)).mono ?_; rintro e w12 ⟨g4, rfl, k4, b4, hw12⟩
    have zw12 : w11.heap.size ≤ w12.heap.size := hw12.size
    replace HA := Lib.hid (HA.out.below hw12 (by omega))
    replace HB := Lib.hid (HB.out.trans (hw12.mono (by omega)))
    replace R0 := Lib.hid (R0.out.below hw12 (by omega))
    replace R1 := Lib.hid (R1.out.below hw12 (by omega))
    clear hw12
    have S4 := Lib.hid (MadeByte.sn k4 b4); clear k4 b4
    go_wp2_with fail
    refine (iUnpackBits_any _ len _ _ _ (S4.out.sr) HW.out hl).mono ?_; rintro e w13 ⟨v2, rfl, r2, hw13⟩
    have zw13 : w12.heap.size ≤ w13.heap.size := hw13.size
    replace HA := Lib.hid (HA.out.below hw13 (by omega))
    replace HB := Lib.hid (HB.out.trans (hw13.mono (by omega)))
    replace R0 := Lib.hid (R0.out.below hw13 (by omega))
    replace R1 := Lib.hid (R1.out.below hw13 (by omega))
    replace S4 := Lib.hid (S4.out.below hw13 (by omega))
    clear hw13
    have R2 := Lib.hid r2; clear r2
    clear S4
    go_wp2_with fail
    refine (eqIntS_yes _ _ _ _ _ _ (R2.out.sr.mono (by omega)) (R0.out.sr.mono (by omega)) (fun _ _ => rfl) (by omega)).mono ?_; rintro e w14 ⟨rfl, hw14⟩
    have zw14 : w13.heap.size ≤ w14.heap.size := hw14.size
    replace HA := Lib.hid (HA.out.below hw14 (by omega))
    replace HB := Lib.hid (HB.out.trans (hw14.mono (by omega)))
    replace R0 := Lib.hid (R0.out.below hw14 (by omega))
    replace R1 := Lib.hid (R1.out.below hw14 (by omega))
    replace R2 := Lib.hid (R2.out.below hw14 (by omega))
    clear hw14
    go_wp2_with fail
    refine (heldIntS_any _ _ _ 1 _ R1.out.sr (by omega) (by omega) (by omega)).mono ?_; rintro e w15 ⟨rfl, hw15⟩
    have zw15 : w14.heap.size ≤ w15.heap.size := hw15.size
    replace HA := Lib.hid (HA.out.below hw15 (by omega))
    replace HB := Lib.hid (HB.out.trans (hw15.mono (by omega)))
    replace R0 := Lib.hid (R0.out.below hw15 (by omega))
    replace R1 := Lib.hid (R1.out.below hw15 (by omega))
    replace R2 := Lib.hid (R2.out.below hw15 (by omega))
    clear hw15
    go_wp2_with fail
    go_ret
    exact ⟨rfl, HB.out⟩
set_option maxRecDepth 100000 in
theorem FnExactPackBits_walk (a : Option Addr) (len cap : Nat) (zs : List Int) (w : World) (h : IsRow .i64 w a len cap zs) :
    Calls Try.prog 4 #[.slice a len cap] w fun e w' => e = .returned (.bool true) ∧ Below w.heap.size w w' := by
  obtain ⟨hs, hm, hwf⟩ := h.sr
  unfold maxLen at hm
  clear h hwf
  by_cases hl : 1048576 < len
  · clear hs
    go_enter Try.func4, Try.ntmps4
    go_wp2
    go_ret
    exact ⟨rfl, Below.refl _ _⟩
  · have hl : len ≤ 1048576 := by omega
    generalize (fun i => zs.getD i 0) = b at *
    have hN : pkN b len ≤ 8388608 := by unfold pkN; split <;> omega
    have HA := Lib.hid hs; clear hs
    have HB := Lib.hid (Below.refl w.heap.size w)
    go_enter Try.func4, Try.ntmps4
    go_wp2_with fail
    refine (toIntS_any _ len _ _ (HA.out.mono (by omega)) (by omega)).mono ?_; rintro e w1 ⟨g1, rfl, k1, b1, hw1⟩
    have zw1 : w.heap.size ≤ w1.heap.size := hw1.size
    replace HA := Lib.hid (HA.out.below hw1 (by omega))
    replace HB := Lib.hid (HB.out.trans (hw1.mono (by omega)))
    clear hw1
    have S1 := Lib.hid (MadeInt.sn k1 b1); clear k1 b1
    go_wp2_with fail
    refine (sPackBits_any _ len _ _ (S1.out.sr) (by omega)).mono ?_; rintro e w2 ⟨v0, rfl, r0, hw2⟩
    have zw2 : w1.heap.size ≤ w2.heap.size := hw2.size
    replace HA := Lib.hid (HA.out.below hw2 (by omega))
    replace HB := Lib.hid (HB.out.trans (hw2.mono (by omega)))
    replace S1 := Lib.hid (S1.out.below hw2 (by omega))
    clear hw2
    have R0 := Lib.hid r0; clear r0
    clear S1
    go_wp2_with fail
    refine (toIntS_any _ len _ _ (HA.out.mono (by omega)) (by omega)).mono ?_; rintro e w3 ⟨g2, rfl, k2, b2, hw3⟩
    have zw3 : w2.heap.size ≤ w3.heap.size := hw3.size
    replace HA := Lib.hid (HA.out.below hw3 (by omega))
    replace HB := Lib.hid (HB.out.trans (hw3.mono (by omega)))
    replace R0 := Lib.hid (R0.out.below hw3 (by omega))
    clear hw3
    have S2 := Lib.hid (MadeInt.sn k2 b2); clear k2 b2
    go_wp2_with fail
    refine (iPackBits_any _ len _ _ (S2.out.sr) (by omega)).mono ?_; rintro e w4 ⟨v1, rfl, r1, hw4⟩
    have zw4 : w3.heap.size ≤ w4.heap.size := hw4.size
    replace HA := Lib.hid (HA.out.below hw4 (by omega))
    replace HB := Lib.hid (HB.out.trans (hw4.mono (by omega)))
    replace R0 := Lib.hid (R0.out.below hw4 (by omega))
    replace S2 := Lib.hid (S2.out.below hw4 (by omega))
    clear hw4
    have R1 := Lib.hid r1; clear r1
    go_wp2_with fail
    refine (eqByteS_yes _ _ _ _ _ _ (R1.out.sr.mono (by omega)) (R0.out.sr.mono (by omega)) (fun _ _ => rfl) (by omega)).mono ?_; rintro e w5 ⟨rfl, hw5⟩
    have zw5 : w4.heap.size ≤ w5.heap.size := hw5.size
    replace HA := Lib.hid (HA.out.below hw5 (by omega))
    replace HB := Lib.hid (HB.out.trans (hw5.mono (by omega)))
    replace R0 := Lib.hid (R0.out.below hw5 (by omega))
    replace S2 := Lib.hid (S2.out.below hw5 (by omega))
    replace R1 := Lib.hid (R1.out.below hw5 (by omega))
    clear hw5
    go_wp2_with fail
    refine (toIntS_any _ len _ _ (HA.out.mono (by omega)) (by omega)).mono ?_; rintro e w6 ⟨g3, rfl, k3, b3, hw6⟩
    have zw6 : w5.heap.size ≤ w6.heap.size := hw6.size
    replace HA := Lib.hid (HA.out.below hw6 (by omega))
    replace HB := Lib.hid (HB.out.trans (hw6.mono (by omega)))
    replace R0 := Lib.hid (R0.out.below hw6 (by omega))
    replace S2 := Lib.hid (S2.out.below hw6 (by omega))
    replace R1 := Lib.hid (R1.out.below hw6 (by omega))
    clear hw6
    have S3 := Lib.hid (MadeInt.sn k3 b3); clear k3 b3
    go_wp2_with fail
    refine (eqIntS_yes _ _ len _ _ _ (S2.out.sr.mono (by omega)) (S3.out.sr.mono (by omega)) (fun _ _ => rfl) (by omega)).mono ?_; rintro e w7 ⟨rfl, hw7⟩
    have zw7 : w6.heap.size ≤ w7.heap.size := hw7.size
    replace HA := Lib.hid (HA.out.below hw7 (by omega))
    replace HB := Lib.hid (HB.out.trans (hw7.mono (by omega)))
    replace R0 := Lib.hid (R0.out.below hw7 (by omega))
    replace S2 := Lib.hid (S2.out.below hw7 (by omega))
    replace R1 := Lib.hid (R1.out.below hw7 (by omega))
    replace S3 := Lib.hid (S3.out.below hw7 (by omega))
    clear hw7
    clear S3
    go_wp2_with fail
    refine (markIntS_any _ len _ _ _ 1 _ S2.out (by omega) (by omega) (by omega)).mono ?_; rintro e w8 ⟨rfl, _, hw8⟩
    clear S2
    have zw8 : w7.heap.size ≤ w8.heap.size := by rw [hw8.size]; exact Nat.le_refl _
    have yw8 : w8.heap.size ≤ w7.heap.size := by rw [hw8.size]; exact Nat.le_refl _
    replace HA := Lib.hid (HA.out.mod hw8 (by omega))
    replace HB := Lib.hid (HB.out.trans (hw8.below (by omega)))
    replace R0 := Lib.hid (R0.out.mod hw8 (by omega))
    replace R1 := Lib.hid (R1.out.mod hw8 (by omega))
    clear hw8
    go_wp2_with fail
    refine (eqByteS_yes _ _ _ _ _ _ (R1.out.sr.mono (by omega)) (R0.out.sr.mono (by omega)) (fun _ _ => rfl) (by omega)).mono ?_; rintro e w9 ⟨rfl, hw9⟩
    have zw9 : w8.heap.size ≤ w9.heap.size := hw9.size
    replace HA := Lib.hid (HA.out.below hw9 (by omega))
    replace HB := Lib.hid (HB.out.trans (hw9.mono (by omega)))
    replace R0 := Lib.hid (R0.out.below hw9 (by omega))
    replace R1 := Lib.hid (R1.out.below hw9 (by omega))
    clear hw9
    go_wp2_with fail
    refine (markByteS_any _ _ _ _ _ 1 _ R1.out (by omega) (by omega) (by omega)).mono ?_; rintro e w10 ⟨rfl, r1, hw10⟩
    clear R1
    have zw10 : w9.heap.size ≤ w10.heap.size := by rw [hw10.size]; exact Nat.le_refl _
    have yw10 : w10.heap.size ≤ w9.heap.size := by rw [hw10.size]; exact Nat.le_refl _
    replace HA := Lib.hid (HA.out.mod hw10 (by omega))
    replace HB := Lib.hid (HB.out.trans (hw10.below (by omega)))
    replace R0 := Lib.hid (R0.out.mod hw10 (by omega))
    clear hw10
    have R1 := Lib.hid r1; clear r1
    go_wp2_with fail
    refine (heldByteS_any _ _ _ 1 _ R1.out.sr (by omega) (by omega) (by omega)).mono ?_; rintro e w11 ⟨rfl, hw11⟩
    have zw11 : w10.heap.size ≤ w11.heap.size := hw11.size
    replace HA := Lib.hid (HA.out.below hw11 (by omega))
    replace HB := Lib.hid (HB.out.trans (hw11.mono (by omega)))
    replace R0 := Lib.hid (R0.out.below hw11 (by omega))
    replace R1 := Lib.hid (R1.out.below hw11 (by omega))
    clear hw11
    go_wp2_with fail
    refine (toIntS_any _ len _ _ (HA.out.mono (by omega)) (by omega)).mono ?_; rintro e w12 ⟨g4, rfl, k4, b4, hw12⟩
    have zw12 : w11.heap.size ≤ w12.heap.size := hw12.size
    replace HA := Lib.hid (HA.out.below hw12 (by omega))
    replace HB := Lib.hid (HB.out.trans (hw12.mono (by omega)))
    replace R0 := Lib.hid (R0.out.below hw12 (by omega))
    replace R1 := Lib.hid (R1.out.below hw12 (by omega))
    clear hw12
    have S4 := Lib.hid (MadeInt.sn k4 b4); clear k4 b4
    go_wp2_with fail
    refine (iPackBits_any _ len _ _ (S4.out.sr) (by omega)).mono ?_; rintro e w13 ⟨v2, rfl, r2, hw13⟩
    have zw13 : w12.heap.size ≤ w13.heap.size := hw13.size
    replace HA := Lib.hid (HA.out.below hw13 (by omega))
    replace HB := Lib.hid (HB.out.trans (hw13.mono (by omega)))
    replace R0 := Lib.hid (R0.out.below hw13 (by omega))
    replace R1 := Lib.hid (R1.out.below hw13 (by omega))
    replace S4 := Lib.hid (S4.out.below hw13 (by omega))
    clear hw13
    have R2 := Lib.hid r2; clear r2
    clear S4
    go_wp2_with fail
    refine (eqByteS_yes _ _ _ _ _ _ (R2.out.sr.mono (by omega)) (R0.out.sr.mono (by omega)) (fun _ _ => rfl) (by omega)).mono ?_; rintro e w14 ⟨rfl, hw14⟩
    have zw14 : w13.heap.size ≤ w14.heap.size := hw14.size
    replace HA := Lib.hid (HA.out.below hw14 (by omega))
    replace HB := Lib.hid (HB.out.trans (hw14.mono (by omega)))
    replace R0 := Lib.hid (R0.out.below hw14 (by omega))
    replace R1 := Lib.hid (R1.out.below hw14 (by omega))
    replace R2 := Lib.hid (R2.out.below hw14 (by omega))
    clear hw14
    go_wp2_with fail
    refine (heldByteS_any _ _ _ 1 _ R1.out.sr (by omega) (by omega) (by omega)).mono ?_; rintro e w15 ⟨rfl, hw15⟩
    have zw15 : w14.heap.size ≤ w15.heap.size := hw15.size
    replace HA := Lib.hid (HA.out.below hw15 (by omega))
    replace HB := Lib.hid (HB.out.trans (hw15.mono (by omega)))
    replace R0 := Lib.hid (R0.out.below hw15 (by omega))
    replace R1 := Lib.hid (R1.out.below hw15 (by omega))
    replace R2 := Lib.hid (R2.out.below hw15 (by omega))
    clear hw15
    go_wp2_with fail
    go_ret
    exact ⟨rfl, HB.out⟩
end Go.Proofs.Ythefdndbbnfaiaa
