/- The walks of the exact laws that return pictures. -/
import Derived.Test.YtjogdkeoadkbnaaPic3
import Derived.Test.YtjogdkeoadkbnaaPicLaws
namespace Go.Proofs.Ytjogdkeoadkbnaa
open Go.RowKit

theorem newN_le (pw ph v : Int) : newN pw ph v ≤ 1024 := by
  unfold newN
  split
  · rename_i h
    unfold newB at h
    simp only [Bool.and_eq_true] at h
    have := side_mul pw ph h.1.1 h.1.2
    omega
  · omega
set_option maxRecDepth 100000 in
set_option maxHeartbeats 2000000 in
theorem FnExactNewPicture_walk (aw : Int) (_h1 : (Lit.int .i64 aw).wf = true) (ah : Int) (_h2 : (Lit.int .i64 ah).wf = true) (v : Int) (_h3 : (Lit.int .i64 v).wf = true) (w : World) :
    Calls Try.prog 3 #[.int .i64 aw, .int .i64 ah, .int .i64 v] w fun e w' => e = .returned (.bool true) ∧ Below w.heap.size w w' := by
  obtain ⟨nw, nh, nn, hn, HS, HI⟩ : ∃ nw nh nn, nn ≤ 1024 ∧ (∀ w, Calls Try.prog 12 #[.int .i64 aw, .int .i64 ah, .int .i64 v] w (GaveP nw nh nn (fun _ => v) w)) ∧ (∀ w, Calls Try.prog 13 #[.int .i64 aw, .int .i64 ah, .int .i64 v] w (GaveP nw nh nn (fun _ => v) w)) := ⟨newS aw ah v aw, newS aw ah v ah, newN aw ah v, newN_le aw ah v, fun w => sNewPicture_any aw ah v w, fun w => iNew_gave aw ah v w⟩
  have HB := Lib.hid (Below.refl w.heap.size w)
  have HS := Lib.hid HS; have HI := Lib.hid HI
  go_enter Try.func3, Try.ntmps3
  go_wp2_with fail
  refine (HS.out _).mono ?_; rintro e w1 ⟨a0, c0, rfl, r0, hw1⟩
  have zw1 : w.heap.size ≤ w1.heap.size := hw1.size
  replace HB := Lib.hid (HB.out.trans (hw1.mono (by omega)))
  clear hw1
  have R0 := Lib.hid r0; clear r0
  have HN := Lib.hid (show PicB (w1.alloc (.cells #[.int .i64 0, .int .i64 0, .slice none 0 0] 24)) w1.heap.size 0 0 (.slice none 0 0) from PicB.new' rfl)
  obtain ⟨w2, hw⟩ : ∃ w2, w2 = (w1.alloc (.cells #[.int .i64 0, .int .i64 0, .slice none 0 0] 24)).setRow w1.heap.size #[.int .i64 nw, .int .i64 nh, .slice a0 nn c0] := ⟨_, rfl⟩
  have hV : PicB w2 w1.heap.size nw nh (.slice a0 nn c0) := by rw [hw]; exact HN.out.setRow _ _ _
  have hw2 : Below w1.heap.size w1 w2 := by rw [hw]; exact below_setRow ((Below.refl _ _).alloc (Nat.le_refl _) _) (Nat.le_refl _) _
  have zw2 : w1.heap.size < w2.heap.size := by rw [hw]; simp
  have HW := Lib.hid hw; clear hw
  replace HB := Lib.hid (HB.out.trans (hw2.mono (by omega)))
  replace R0 := Lib.hid (R0.out.below hw2 (by omega))
  have Va := Lib.hid hV; clear hV hw2
  go_wp2_with (first | (refine storeP w1.heap.size HN.out rfl rfl rfl rfl rfl ?_; rw [← HW.out]))
  clear HW HN
  refine (HI.out _).mono ?_; rintro e w3 ⟨a1, c1, rfl, r1, hw3⟩
  have zw3 : w2.heap.size ≤ w3.heap.size := hw3.size
  replace HB := Lib.hid (HB.out.trans (hw3.mono (by omega)))
  replace R0 := Lib.hid (R0.out.below hw3 (by omega))
  replace Va := Lib.hid (Va.out.below hw3 (by omega))
  clear hw3
  have R1 := Lib.hid r1; clear r1
  have HN := Lib.hid (show PicB (w3.alloc (.cells #[.int .i64 0, .int .i64 0, .slice none 0 0] 24)) w3.heap.size 0 0 (.slice none 0 0) from PicB.new' rfl)
  obtain ⟨w4, hw⟩ : ∃ w4, w4 = (w3.alloc (.cells #[.int .i64 0, .int .i64 0, .slice none 0 0] 24)).setRow w3.heap.size #[.int .i64 nw, .int .i64 nh, .slice a1 nn c1] := ⟨_, rfl⟩
  have hV : PicB w4 w3.heap.size nw nh (.slice a1 nn c1) := by rw [hw]; exact HN.out.setRow _ _ _
  have hw4 : Below w3.heap.size w3 w4 := by rw [hw]; exact below_setRow ((Below.refl _ _).alloc (Nat.le_refl _) _) (Nat.le_refl _) _
  have zw4 : w3.heap.size < w4.heap.size := by rw [hw]; simp
  have HW := Lib.hid hw; clear hw
  replace HB := Lib.hid (HB.out.trans (hw4.mono (by omega)))
  replace R0 := Lib.hid (R0.out.below hw4 (by omega))
  replace Va := Lib.hid (Va.out.below hw4 (by omega))
  replace R1 := Lib.hid (R1.out.below hw4 (by omega))
  have Vb := Lib.hid hV; clear hV hw4
  go_wp2_with (first | (refine storeP w3.heap.size HN.out rfl rfl rfl rfl rfl ?_; rw [← HW.out]) | refine loadP (w3.heap.size) Vb.out rfl rfl rfl ?_ | refine loadP (w1.heap.size) Va.out rfl rfl rfl ?_)
  clear HW HN
  refine (eqPicture_yes _ _ _ _ nn _ _ _ (R1.out.sr.mono (by omega)) (R0.out.sr.mono (by omega)) (fun _ _ => rfl) (by omega)).mono ?_; rintro e w5 ⟨rfl, hw5⟩
  have zw5 : w4.heap.size ≤ w5.heap.size := hw5.size
  replace HB := Lib.hid (HB.out.trans (hw5.mono (by omega)))
  replace R0 := Lib.hid (R0.out.below hw5 (by omega))
  replace Va := Lib.hid (Va.out.below hw5 (by omega))
  replace R1 := Lib.hid (R1.out.below hw5 (by omega))
  replace Vb := Lib.hid (Vb.out.below hw5 (by omega))
  clear hw5
  go_wp2_with (first | refine loadP (w3.heap.size) Vb.out rfl rfl rfl ?_)
  refine (markPicture_modB _ _ _ nn _ _ _ 1 _ R1.out (by omega) (by omega) (by omega) (by omega)).mono ?_; rintro e w6 ⟨rfl, r, hw6⟩
  clear R1
  have zw6 : w5.heap.size ≤ w6.heap.size := hw6.size
  replace HB := Lib.hid (HB.out.trans (hw6.below (by omega)))
  replace R0 := Lib.hid (R0.out.modB hw6 (by omega))
  replace Va := Lib.hid (Va.out.modB hw6 (by omega))
  replace Vb := Lib.hid (Vb.out.modB hw6 (by omega))
  clear hw6
  have R1 := Lib.hid r; clear r
  go_wp2_with (first | refine loadP (w3.heap.size) Vb.out rfl rfl rfl ?_)
  refine (heldPicture_any _ _ _ nn _ 1 _ R1.out.sr (by omega) (by omega) (by omega) (by omega)).mono ?_; rintro e w7 ⟨rfl, hw7⟩
  have zw7 : w6.heap.size ≤ w7.heap.size := hw7.size
  replace HB := Lib.hid (HB.out.trans (hw7.mono (by omega)))
  replace R0 := Lib.hid (R0.out.below hw7 (by omega))
  replace Va := Lib.hid (Va.out.below hw7 (by omega))
  replace Vb := Lib.hid (Vb.out.below hw7 (by omega))
  replace R1 := Lib.hid (R1.out.below hw7 (by omega))
  clear hw7
  go_wp2_with fail
  refine (HI.out _).mono ?_; rintro e w8 ⟨a2, c2, rfl, r2, hw8⟩
  have zw8 : w7.heap.size ≤ w8.heap.size := hw8.size
  replace HB := Lib.hid (HB.out.trans (hw8.mono (by omega)))
  replace R0 := Lib.hid (R0.out.below hw8 (by omega))
  replace Va := Lib.hid (Va.out.below hw8 (by omega))
  replace Vb := Lib.hid (Vb.out.below hw8 (by omega))
  replace R1 := Lib.hid (R1.out.below hw8 (by omega))
  clear hw8
  have R2 := Lib.hid r2; clear r2
  have HN := Lib.hid (show PicB (w8.alloc (.cells #[.int .i64 0, .int .i64 0, .slice none 0 0] 24)) w8.heap.size 0 0 (.slice none 0 0) from PicB.new' rfl)
  obtain ⟨w9, hw⟩ : ∃ w9, w9 = (w8.alloc (.cells #[.int .i64 0, .int .i64 0, .slice none 0 0] 24)).setRow w8.heap.size #[.int .i64 nw, .int .i64 nh, .slice a2 nn c2] := ⟨_, rfl⟩
  have hV : PicB w9 w8.heap.size nw nh (.slice a2 nn c2) := by rw [hw]; exact HN.out.setRow _ _ _
  have hw9 : Below w8.heap.size w8 w9 := by rw [hw]; exact below_setRow ((Below.refl _ _).alloc (Nat.le_refl _) _) (Nat.le_refl _) _
  have zw9 : w8.heap.size < w9.heap.size := by rw [hw]; simp
  have HW := Lib.hid hw; clear hw
  replace HB := Lib.hid (HB.out.trans (hw9.mono (by omega)))
  replace R0 := Lib.hid (R0.out.below hw9 (by omega))
  replace Va := Lib.hid (Va.out.below hw9 (by omega))
  replace Vb := Lib.hid (Vb.out.below hw9 (by omega))
  replace R1 := Lib.hid (R1.out.below hw9 (by omega))
  replace R2 := Lib.hid (R2.out.below hw9 (by omega))
  have Vc := Lib.hid hV; clear hV hw9
  go_wp2_with (first | (refine storeP w8.heap.size HN.out rfl rfl rfl rfl rfl ?_; rw [← HW.out]) | refine loadP (w8.heap.size) Vc.out rfl rfl rfl ?_ | refine loadP (w1.heap.size) Va.out rfl rfl rfl ?_)
  clear HW HN
  refine (eqPicture_yes _ _ _ _ nn _ _ _ (R2.out.sr.mono (by omega)) (R0.out.sr.mono (by omega)) (fun _ _ => rfl) (by omega)).mono ?_; rintro e w10 ⟨rfl, hw10⟩
  have zw10 : w9.heap.size ≤ w10.heap.size := hw10.size
  replace HB := Lib.hid (HB.out.trans (hw10.mono (by omega)))
  replace R0 := Lib.hid (R0.out.below hw10 (by omega))
  replace Va := Lib.hid (Va.out.below hw10 (by omega))
  replace Vb := Lib.hid (Vb.out.below hw10 (by omega))
  replace R1 := Lib.hid (R1.out.below hw10 (by omega))
  replace R2 := Lib.hid (R2.out.below hw10 (by omega))
  replace Vc := Lib.hid (Vc.out.below hw10 (by omega))
  clear hw10
  go_wp2_with (first | refine loadP (w3.heap.size) Vb.out rfl rfl rfl ?_)
  refine (heldPicture_any _ _ _ nn _ 1 _ R1.out.sr (by omega) (by omega) (by omega) (by omega)).mono ?_; rintro e w11 ⟨rfl, hw11⟩
  have zw11 : w10.heap.size ≤ w11.heap.size := hw11.size
  replace HB := Lib.hid (HB.out.trans (hw11.mono (by omega)))
  replace R0 := Lib.hid (R0.out.below hw11 (by omega))
  replace Va := Lib.hid (Va.out.below hw11 (by omega))
  replace Vb := Lib.hid (Vb.out.below hw11 (by omega))
  replace R1 := Lib.hid (R1.out.below hw11 (by omega))
  replace R2 := Lib.hid (R2.out.below hw11 (by omega))
  replace Vc := Lib.hid (Vc.out.below hw11 (by omega))
  clear hw11
  go_wp2_with fail
  go_ret
  exact ⟨rfl, HB.out⟩
end Go.Proofs.Ytjogdkeoadkbnaa
