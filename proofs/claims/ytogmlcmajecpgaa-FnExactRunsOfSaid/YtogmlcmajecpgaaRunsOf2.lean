/- The walk of the exact law on RunsOf. -/
import Derived.Test.YtogmlcmajecpgaaMarkRuns
namespace Go.Proofs.Ytogmlcmajecpgaa
open Go.RowKit

set_option maxRecDepth 100000 in
set_option maxHeartbeats 4000000 in
theorem FnExactRunsOf_walk (b : Nat → Int) (_hb : ∀ k, k < 16 → (Lit.int .i64 (b k)).wf = true) (w : World) :
    Calls Try.prog 7 #[.agg (VN 16 b)] w fun e w' => e = .returned (.bool true) ∧ Below w.heap.size w w' := by
  clear _hb
  have hl16 := runsB_len b
  obtain ⟨l, hl⟩ : ∃ l, runsB b = l := ⟨_, rfl⟩
  rw [hl] at hl16
  have HI := Lib.hid (show ∀ w, Calls Try.prog 27 #[.agg (VN 16 b)] w (fun e w' => ∃ v, e = .returned v ∧ OwnR w.heap.size w' v l ∧ Below w.heap.size w w') by rw [← hl]; exact iRunsOf_any b)
  have HS := Lib.hid (show ∀ w, Calls Try.prog 26 #[.agg (VN 16 b)] w (fun e w' => ∃ v, e = .returned v ∧ OwnR w.heap.size w' v l ∧ Below w.heap.size w w') by rw [← hl]; exact sRunsOf_any b)
  clear hl
  obtain ⟨n, hn⟩ : ∃ n, l.length = n := ⟨_, rfl⟩
  have hn16 : n ≤ 16 := by omega
  have HNL := Lib.hid hn; clear hn
  obtain ⟨mk, hmk⟩ : ∃ mk : Int, 1 + 2 * (n : Int) = mk := ⟨_, rfl⟩
  have HMK := Lib.hid hmk
  have hmk0 : ¬ mk < 0 := by omega
  have hne : (mk != mk) = false := by simp
  clear hmk
  have hV := Blk.new w 16 29 b
  have hB := (Below.refl w.heap.size w).alloc (Nat.le_refl _) (.cells (VN 16 b) 29)
  obtain ⟨w0, hw0⟩ : ∃ w0, w0 = w.alloc (.cells (VN 16 b) 29) := ⟨_, rfl⟩
  have hs0 : w.heap.size < w0.heap.size := by rw [hw0]; simp
  rw [← hw0] at hV hB
  have HW := Lib.hid hw0; clear hw0
  have V := Lib.hid hV; have HB := Lib.hid hB; clear hV hB
  go_enter Try.func7, Try.ntmps7
  go_wp2_with (rw [← HW.out]; refine load16 w.heap.size V.out rfl rfl rfl ?_)
  refine (toIntA16_any _ _).mono ?_; rintro e w1 ⟨rfl, hw1⟩
  have zw1 : w0.heap.size ≤ w1.heap.size := hw1.size
  replace V := Lib.hid (V.out.below hw1 (by omega))
  replace HB := Lib.hid (HB.out.trans (hw1.mono (by omega)))
  clear hw1
  go_wp2_with fail
  refine (HS.out _).mono ?_; rintro e w2 ⟨vw, rfl, ho, hw2⟩
  have zw2 : w1.heap.size ≤ w2.heap.size := hw2.size
  replace V := Lib.hid (V.out.below hw2 (by omega))
  replace HB := Lib.hid (HB.out.trans (hw2.mono (by omega)))
  clear hw2
  have SW := Lib.hid ho.sn; clear ho
  go_wp2_with (refine load16 w.heap.size V.out rfl rfl rfl ?_)
  refine (toIntA16_any _ _).mono ?_; rintro e w3 ⟨rfl, hw3⟩
  have zw3 : w2.heap.size ≤ w3.heap.size := hw3.size
  replace V := Lib.hid (V.out.below hw3 (by omega))
  replace HB := Lib.hid (HB.out.trans (hw3.mono (by omega)))
  replace SW := Lib.hid (SW.out.below hw3 (by omega))
  clear hw3
  go_wp2_with fail
  refine (HI.out _).mono ?_; rintro e w4 ⟨vg, rfl, ho, hw4⟩
  have zw4 : w3.heap.size ≤ w4.heap.size := hw4.size
  replace V := Lib.hid (V.out.below hw4 (by omega))
  replace HB := Lib.hid (HB.out.trans (hw4.mono (by omega)))
  replace SW := Lib.hid (SW.out.below hw4 (by omega))
  clear hw4
  have SG := Lib.hid ho.sn; clear ho
  go_wp2_with fail
  refine (eqRunS_yes _ _ l _ (SG.out.sr.mono (by omega)) (SW.out.sr.mono (by omega)) (by omega)).mono ?_; rintro e w5 ⟨rfl, hw5⟩
  have zw5 : w4.heap.size ≤ w5.heap.size := hw5.size
  replace V := Lib.hid (V.out.below hw5 (by omega))
  replace HB := Lib.hid (HB.out.trans (hw5.mono (by omega)))
  replace SW := Lib.hid (SW.out.below hw5 (by omega))
  replace SG := Lib.hid (SG.out.below hw5 (by omega))
  clear hw5
  go_wp2_with fail
  refine (markRunS_any _ _ _ l 1 _ SG.out (by omega) (by omega) (by omega)).mono ?_; rintro e w6 ⟨rfl, hg, hm⟩
  rw [HNL.out] at hg ⊢
  rw [HMK.out]
  have zw6 : w5.heap.size ≤ w6.heap.size := by rw [hm.size]; exact Nat.le_refl _
  have hw6 := hm.below (Nat.le_refl _)
  replace V := Lib.hid (V.out.below hw6 (by omega))
  replace HB := Lib.hid (HB.out.trans (hw6.mono (by omega)))
  replace SW := Lib.hid (SW.out.below hw6 (by omega))
  clear hw6 hm
  replace SG := Lib.hid hg; clear hg
  go_wp2_with fail
  refine (heldRunS_any _ n 1 _ (SG.out.sr.mono (by omega)) (by omega) (by omega) (by omega)).mono ?_; rintro e w7 ⟨rfl, hw7⟩
  have zw7 : w6.heap.size ≤ w7.heap.size := hw7.size
  replace V := Lib.hid (V.out.below hw7 (by omega))
  replace HB := Lib.hid (HB.out.trans (hw7.mono (by omega)))
  replace SW := Lib.hid (SW.out.below hw7 (by omega))
  replace SG := Lib.hid (SG.out.below hw7 (by omega))
  clear hw7
  rw [HMK.out]
  go_wp2_with (refine load16 w.heap.size V.out rfl rfl rfl ?_)
  refine (toIntA16_any _ _).mono ?_; rintro e w8 ⟨rfl, hw8⟩
  have zw8 : w7.heap.size ≤ w8.heap.size := hw8.size
  replace V := Lib.hid (V.out.below hw8 (by omega))
  replace HB := Lib.hid (HB.out.trans (hw8.mono (by omega)))
  replace SW := Lib.hid (SW.out.below hw8 (by omega))
  replace SG := Lib.hid (SG.out.below hw8 (by omega))
  clear hw8
  go_wp2_with fail
  refine (HI.out _).mono ?_; rintro e w9 ⟨vh, rfl, ho, hw9⟩
  have zw9 : w8.heap.size ≤ w9.heap.size := hw9.size
  replace V := Lib.hid (V.out.below hw9 (by omega))
  replace HB := Lib.hid (HB.out.trans (hw9.mono (by omega)))
  replace SW := Lib.hid (SW.out.below hw9 (by omega))
  replace SG := Lib.hid (SG.out.below hw9 (by omega))
  clear hw9
  have SH := Lib.hid ho.sn; clear ho
  go_wp2_with fail
  refine (eqRunS_yes _ _ l _ (SH.out.sr.mono (by omega)) (SW.out.sr.mono (by omega)) (by omega)).mono ?_; rintro e w10 ⟨rfl, hw10⟩
  have zw10 : w9.heap.size ≤ w10.heap.size := hw10.size
  replace V := Lib.hid (V.out.below hw10 (by omega))
  replace HB := Lib.hid (HB.out.trans (hw10.mono (by omega)))
  replace SW := Lib.hid (SW.out.below hw10 (by omega))
  replace SG := Lib.hid (SG.out.below hw10 (by omega))
  replace SH := Lib.hid (SH.out.below hw10 (by omega))
  clear hw10
  go_wp2_with fail
  refine (heldRunS_any _ n 1 _ (SG.out.sr.mono (by omega)) (by omega) (by omega) (by omega)).mono ?_; rintro e w11 ⟨rfl, hw11⟩
  have zw11 : w10.heap.size ≤ w11.heap.size := hw11.size
  replace V := Lib.hid (V.out.below hw11 (by omega))
  replace HB := Lib.hid (HB.out.trans (hw11.mono (by omega)))
  replace SW := Lib.hid (SW.out.below hw11 (by omega))
  replace SG := Lib.hid (SG.out.below hw11 (by omega))
  replace SH := Lib.hid (SH.out.below hw11 (by omega))
  clear hw11
  rw [HMK.out]
  go_wp2_with fail
  go_ret
  exact ⟨rfl, HB.out⟩
end Go.Proofs.Ytogmlcmajecpgaa
