/- The walk of the exact law on BlockOf. -/
import Derived.Test.YtogmlcmajecpgaaBlockOf2
import Derived.Test.YtogmlcmajecpgaaOpenRuns
import Derived.Test.YtogmlcmajecpgaaEnergy
namespace Go.Proofs.Ytogmlcmajecpgaa
open Go.RowKit

set_option maxRecDepth 100000 in
set_option maxHeartbeats 4000000 in
theorem FnExactBlockOf_walk (a : Option Addr) (len cap : Nat) (l : List (Int × Int)) (w : World) (h : IsRunL w a len cap l) :
    Calls Try.prog 6 #[.slice a len cap] w fun e w' => e = .returned (.bool true) ∧ Below w.heap.size w w' := by
  obtain ⟨hs, hl, hm⟩ := h
  subst hl
  by_cases hbig : 1048576 < l.length
  · have hlf : leftR 1048576 l.length = -1 := by unfold leftR; rw [if_pos (by omega)]
    clear hs
    go_enter Try.func6, Try.ntmps6
    go_wp2_with fail
    refine (szRunS_any _ _ _ _ _ hm (by omega) (by omega)).mono ?_; rintro e w1 ⟨rfl, rfl⟩
    rw [hlf]
    clear hlf
    go_wp2_with fail
    go_ret
    exact ⟨rfl, Below.refl _ _⟩
  · have hlf : ¬ leftR 1048576 l.length < 0 := by unfold leftR; rw [if_neg (by omega)]; omega
    have SL := Lib.hid hs; clear hs
    have HB := Lib.hid (Below.refl w.heap.size w)
    obtain ⟨bb, hbb⟩ : ∃ z, boB l = z := ⟨_, rfl⟩
    obtain ⟨ok, hok⟩ : ∃ z, boOk l = z := ⟨_, rfl⟩
    have HO := Lib.hid (show ∀ w e w', BoGave l w e w' → e = .returned (.tuple #[.agg (VN 16 bb), .bool ok]) ∧ Below w.heap.size w w' by subst hbb hok; exact fun _ _ _ h => h); clear hbb hok
    have hne : (ok != ok) = false := by cases ok <;> rfl
    go_enter Try.func6, Try.ntmps6
    go_wp2_with fail
    refine (szRunS_any _ _ _ _ _ hm (by omega) (by omega)).mono ?_; rintro e _ ⟨rfl, rfl⟩
    generalize leftR 1048576 l.length = lf at *
    go_wp2_with fail
    refine (toRunS_any _ l _ (SL.out.mono (by omega)) (by omega)).mono ?_; rintro e w1 ⟨u1, rfl, hu1, hw1⟩
    have zw1 : w.heap.size ≤ w1.heap.size := hw1.size
    replace SL := Lib.hid (SL.out.below hw1 (by omega))
    replace HB := Lib.hid (HB.out.trans (hw1.mono (by omega)))
    clear hw1
    have S1 := Lib.hid hu1; clear hu1
    go_wp2_with fail
    refine (sBlockOf_any _ l _ (S1.out.mono (by omega)) (by omega)).mono ?_; intro e w2 hg; obtain ⟨rfl, hw2⟩ := HO.out _ _ _ hg; clear hg
    have zw2 : w1.heap.size ≤ w2.heap.size := hw2.size
    replace SL := Lib.hid (SL.out.below hw2 (by omega))
    replace HB := Lib.hid (HB.out.trans (hw2.mono (by omega)))
    replace S1 := Lib.hid (S1.out.below hw2 (by omega))
    clear hw2
    have HN := Lib.hid (show Blk (w2.alloc (.cells #[.int .i64 0, .int .i64 0, .int .i64 0, .int .i64 0, .int .i64 0, .int .i64 0, .int .i64 0, .int .i64 0, .int .i64 0, .int .i64 0, .int .i64 0, .int .i64 0, .int .i64 0, .int .i64 0, .int .i64 0, .int .i64 0] 29)) w2.heap.size 16 29 (fun _ => 0) by rw [← zero16]; exact Blk.new _ _ _ _)
    obtain ⟨w3, hw⟩ : ∃ w3, w3 = (w2.alloc (.cells #[.int .i64 0, .int .i64 0, .int .i64 0, .int .i64 0, .int .i64 0, .int .i64 0, .int .i64 0, .int .i64 0, .int .i64 0, .int .i64 0, .int .i64 0, .int .i64 0, .int .i64 0, .int .i64 0, .int .i64 0, .int .i64 0] 29)).setRow w2.heap.size (VN 16 (bb)) := ⟨_, rfl⟩
    have hV : Blk w3 w2.heap.size 16 29 (bb) := by rw [hw]; exact HN.out.setRow _
    have hw3 : Below w2.heap.size w2 w3 := by rw [hw]; exact below_setRow ((Below.refl _ _).alloc (Nat.le_refl _) _) (Nat.le_refl _) _
    have zw3 : w2.heap.size < w3.heap.size := by rw [hw]; simp
    have HW := Lib.hid hw; clear hw
    replace SL := Lib.hid (SL.out.below hw3 (by omega))
    replace HB := Lib.hid (HB.out.trans (hw3.mono (by omega)))
    replace S1 := Lib.hid (S1.out.below hw3 (by omega))
    have Va := Lib.hid hV; clear hV hw3
    go_wp2_with (refine store16 w2.heap.size _ HN.out rfl rfl rfl rfl ?_; rw [← HW.out])
    clear HW HN
    refine (toRunS_any _ l _ (SL.out.mono (by omega)) (by omega)).mono ?_; rintro e w4 ⟨u2, rfl, hu2, hw4⟩
    have zw4 : w3.heap.size ≤ w4.heap.size := hw4.size
    replace SL := Lib.hid (SL.out.below hw4 (by omega))
    replace HB := Lib.hid (HB.out.trans (hw4.mono (by omega)))
    replace S1 := Lib.hid (S1.out.below hw4 (by omega))
    replace Va := Lib.hid (Va.out.below hw4 (by omega))
    clear hw4
    have S2 := Lib.hid hu2; clear hu2
    go_wp2_with fail
    refine (iBlockOf_any _ l _ (S2.out.mono (by omega)) (by omega)).mono ?_; intro e w5 hg; obtain ⟨rfl, hw5⟩ := HO.out _ _ _ hg; clear hg
    have zw5 : w4.heap.size ≤ w5.heap.size := hw5.size
    replace SL := Lib.hid (SL.out.below hw5 (by omega))
    replace HB := Lib.hid (HB.out.trans (hw5.mono (by omega)))
    replace S1 := Lib.hid (S1.out.below hw5 (by omega))
    replace Va := Lib.hid (Va.out.below hw5 (by omega))
    replace S2 := Lib.hid (S2.out.below hw5 (by omega))
    clear hw5
    skip
    have HN := Lib.hid (show Blk (w5.alloc (.cells #[.int .i64 0, .int .i64 0, .int .i64 0, .int .i64 0, .int .i64 0, .int .i64 0, .int .i64 0, .int .i64 0, .int .i64 0, .int .i64 0, .int .i64 0, .int .i64 0, .int .i64 0, .int .i64 0, .int .i64 0, .int .i64 0] 29)) w5.heap.size 16 29 (fun _ => 0) by rw [← zero16]; exact Blk.new _ _ _ _)
    obtain ⟨w6, hw⟩ : ∃ w6, w6 = (w5.alloc (.cells #[.int .i64 0, .int .i64 0, .int .i64 0, .int .i64 0, .int .i64 0, .int .i64 0, .int .i64 0, .int .i64 0, .int .i64 0, .int .i64 0, .int .i64 0, .int .i64 0, .int .i64 0, .int .i64 0, .int .i64 0, .int .i64 0] 29)).setRow w5.heap.size (VN 16 (bb)) := ⟨_, rfl⟩
    have hV : Blk w6 w5.heap.size 16 29 (bb) := by rw [hw]; exact HN.out.setRow _
    have hw6 : Below w5.heap.size w5 w6 := by rw [hw]; exact below_setRow ((Below.refl _ _).alloc (Nat.le_refl _) _) (Nat.le_refl _) _
    have zw6 : w5.heap.size < w6.heap.size := by rw [hw]; simp
    have HW := Lib.hid hw; clear hw
    replace SL := Lib.hid (SL.out.below hw6 (by omega))
    replace HB := Lib.hid (HB.out.trans (hw6.mono (by omega)))
    replace S1 := Lib.hid (S1.out.below hw6 (by omega))
    replace Va := Lib.hid (Va.out.below hw6 (by omega))
    replace S2 := Lib.hid (S2.out.below hw6 (by omega))
    have Vb := Lib.hid hV; clear hV hw6
    go_wp2_with (first | (refine store16 w5.heap.size _ HN.out rfl rfl rfl rfl ?_; rw [← HW.out]) | refine load16 (w5.heap.size) Vb.out rfl rfl rfl ?_ | refine load16 (w2.heap.size) Va.out rfl rfl rfl ?_)
    clear HW HN
    refine (eqIntA16_yes _ _ _ (fun _ _ => rfl)).mono ?_; rintro e w7 ⟨rfl, hw7⟩
    have zw7 : w6.heap.size ≤ w7.heap.size := hw7.size
    replace SL := Lib.hid (SL.out.below hw7 (by omega))
    replace HB := Lib.hid (HB.out.trans (hw7.mono (by omega)))
    replace S1 := Lib.hid (S1.out.below hw7 (by omega))
    replace Va := Lib.hid (Va.out.below hw7 (by omega))
    replace S2 := Lib.hid (S2.out.below hw7 (by omega))
    replace Vb := Lib.hid (Vb.out.below hw7 (by omega))
    clear hw7
    go_wp2_with fail
    refine (toRunS_any _ l _ (SL.out.mono (by omega)) (by omega)).mono ?_; rintro e w8 ⟨u3, rfl, hu3, hw8⟩
    have zw8 : w7.heap.size ≤ w8.heap.size := hw8.size
    replace SL := Lib.hid (SL.out.below hw8 (by omega))
    replace HB := Lib.hid (HB.out.trans (hw8.mono (by omega)))
    replace S1 := Lib.hid (S1.out.below hw8 (by omega))
    replace Va := Lib.hid (Va.out.below hw8 (by omega))
    replace S2 := Lib.hid (S2.out.below hw8 (by omega))
    replace Vb := Lib.hid (Vb.out.below hw8 (by omega))
    clear hw8
    have S3 := Lib.hid hu3; clear hu3
    go_wp2_with fail
    refine (eqRunS_yes _ _ l _ (S2.out.mono (by omega)) (S3.out.mono (by omega)) (by omega)).mono ?_; rintro e w9 ⟨rfl, hw9⟩
    have zw9 : w8.heap.size ≤ w9.heap.size := hw9.size
    replace SL := Lib.hid (SL.out.below hw9 (by omega))
    replace HB := Lib.hid (HB.out.trans (hw9.mono (by omega)))
    replace S1 := Lib.hid (S1.out.below hw9 (by omega))
    replace Va := Lib.hid (Va.out.below hw9 (by omega))
    replace S2 := Lib.hid (S2.out.below hw9 (by omega))
    replace Vb := Lib.hid (Vb.out.below hw9 (by omega))
    replace S3 := Lib.hid (S3.out.below hw9 (by omega))
    clear hw9
    go_wp2_with fail
    go_ret
    exact ⟨rfl, HB.out⟩
end Go.Proofs.Ytogmlcmajecpgaa
