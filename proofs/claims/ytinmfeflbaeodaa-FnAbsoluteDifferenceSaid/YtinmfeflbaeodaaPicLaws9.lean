/- The walk of a law on two pictures. -/
import Derived.Test.YtinmfeflbaeodaaPairMath
import Derived.Test.YtinmfeflbaeodaaDrawPic5
import Derived.Deep.Cut
namespace Go.Proofs.Ytinmfeflbaeodaa
open Go.RowKit

set_option maxRecDepth 100000 in
set_option maxHeartbeats 4000000 in
theorem FnAbsoluteDifference_walk (a : Option Addr) (len cap : Nat) (zs : List Int) (w : World) (h : IsRow .u8 w a len cap zs) :
    Calls Try.prog 9 #[.slice a len cap] w fun e w' => e = .returned (.bool true) ∧ Below w.heap.size w w' := by
  obtain ⟨hs, hm⟩ := h.bytes
  unfold maxLen at hm
  clear h
  by_cases hl : 1048576 < len
  · clear hs
    go_enter Try.func9, Try.ntmps9
    go_wp2
    go_ret
    exact ⟨rfl, Below.refl _ _⟩
  · have HS := Lib.hid hs; clear hs
    have HB := Lib.hid (Below.refl w.heap.size w)
    go_enter Try.func9, Try.ntmps9
    go_wp2_with fail
    refine (DrawAbsoluteDifference_any _ len _ _ HS.out (by omega)).mono ?_; rintro e w1 ⟨aw, ah, u, an, f, bw, bh, ub, bn, g, rfl, ⟨hSa, han⟩, ⟨hSb, hbn⟩, hw1⟩
    have zw1 : w.heap.size ≤ w1.heap.size := hw1.size
    replace HB := Lib.hid (HB.out.trans (hw1.mono (by omega)))
    clear hw1
    have hu1 := hSa.one; have hv1 := hSb.one
    have SA := Lib.hid hSa; have SB := Lib.hid hSb; clear hSa hSb
    have HN1 := Lib.hid (show PicB ((w1.alloc (.cells #[.int .i64 0, .int .i64 0, .slice none 0 0] 25)).alloc (.cells #[.int .i64 0, .int .i64 0, .slice none 0 0] 25)) w1.heap.size 0 0 (.slice none 0 0) from (PicB.new' rfl).alloc _)
    have HN2 := Lib.hid (show PicB (((w1.alloc (.cells #[.int .i64 0, .int .i64 0, .slice none 0 0] 25)).alloc (.cells #[.int .i64 0, .int .i64 0, .slice none 0 0] 25)).setRow w1.heap.size #[.int .i64 aw, .int .i64 ah, u]) (w1.heap.size + 1) 0 0 (.slice none 0 0) from PicB.setRowOther' (PicB.new' (by simp)) _ (by omega))
    obtain ⟨w2, hw⟩ : ∃ x, x = (((w1.alloc (.cells #[.int .i64 0, .int .i64 0, .slice none 0 0] 25)).alloc (.cells #[.int .i64 0, .int .i64 0, .slice none 0 0] 25)).setRow w1.heap.size #[.int .i64 aw, .int .i64 ah, u]).setRow (w1.heap.size + 1) #[.int .i64 bw, .int .i64 bh, ub] := ⟨_, rfl⟩
    have hVa : PicB w2 w1.heap.size aw ah u := by rw [hw]; exact (HN1.out.setRow _ _ _).setRowOther' _ (by omega)
    have hVb : PicB w2 (w1.heap.size + 1) bw bh ub := by rw [hw]; exact HN2.out.setRow _ _ _
    have hw2 : Below w1.heap.size w1 w2 := by rw [hw]; exact below_setRow (below_setRow (((Below.refl _ _).alloc (Nat.le_refl _) _).alloc (by simp) _) (Nat.le_refl _) _) (by omega) _
    have zw2 : w1.heap.size + 1 < w2.heap.size := by rw [hw]; simp
    have HW := Lib.hid hw; clear hw
    replace HB := Lib.hid (HB.out.trans (hw2.mono (by omega)))
    replace SA := Lib.hid (SA.out.below hw2 (by omega))
    replace SB := Lib.hid (SB.out.below hw2 (by omega))
    have Va := Lib.hid hVa; have Vb := Lib.hid hVb; clear hVa hVb hw2
    go_wp2_with (first | refine storeP (w1.heap.size) HN1.out hu1 rfl rfl rfl rfl ?_ | (refine storeP (w1.heap.size + 1) HN2.out hv1 rfl rfl rfl rfl ?_; rw [← HW.out]) | refine loadP (w1.heap.size) Va.out rfl rfl rfl ?_ | refine loadP (w1.heap.size + 1) Vb.out rfl rfl rfl ?_)
    clear HW HN1 HN2
    obtain ⟨d, hd⟩ : ∃ z, absD aw ah an f bw bh bn g = z := ⟨_, rfl⟩
    have Hd := Lib.hid hd; clear hd
    have nd : (d != d) = false := by simp
    have ed : (d == d) = true := by simp
    refine (iAbsoluteDifference_any aw ah u an f bw bh ub bn g _ (SA.out.sr.mono (by omega)) (SB.out.sr.mono (by omega)) (by omega) (by omega)).mono ?_; rintro e w3 ⟨rfl, hw3⟩
    have zw3 : w2.heap.size ≤ w3.heap.size := hw3.size
    replace HB := Lib.hid (HB.out.trans (hw3.mono (by omega)))
    replace SA := Lib.hid (SA.out.below hw3 (by omega))
    replace SB := Lib.hid (SB.out.below hw3 (by omega))
    replace Va := Lib.hid (Va.out.below hw3 (by omega))
    replace Vb := Lib.hid (Vb.out.below hw3 (by omega))
    clear hw3
    rw [Hd.out]
    go_wp2_with (first | refine loadP (w1.heap.size) Va.out rfl rfl rfl ?_ | refine loadP (w1.heap.size + 1) Vb.out rfl rfl rfl ?_)
    refine (sAbsoluteDifference_any aw ah u an f bw bh ub bn g _ (SA.out.sr.mono (by omega)) (SB.out.sr.mono (by omega)) (by omega) (by omega)).mono ?_; rintro e w4 ⟨rfl, hw4⟩
    have zw4 : w3.heap.size ≤ w4.heap.size := hw4.size
    replace HB := Lib.hid (HB.out.trans (hw4.mono (by omega)))
    replace SA := Lib.hid (SA.out.below hw4 (by omega))
    replace SB := Lib.hid (SB.out.below hw4 (by omega))
    replace Va := Lib.hid (Va.out.below hw4 (by omega))
    replace Vb := Lib.hid (Vb.out.below hw4 (by omega))
    clear hw4
    rw [Hd.out]
    go_wp2_with (first | refine loadP (w1.heap.size) Va.out rfl rfl rfl ?_ | refine loadP (w1.heap.size + 1) Vb.out rfl rfl rfl ?_)
    refine (iAbsoluteDifference_any bw bh ub bn g aw ah u an f _ (SB.out.sr.mono (by omega)) (SA.out.sr.mono (by omega)) (by omega) (by omega)).mono ?_; rintro e w5 ⟨rfl, hw5⟩
    have zw5 : w4.heap.size ≤ w5.heap.size := hw5.size
    replace HB := Lib.hid (HB.out.trans (hw5.mono (by omega)))
    replace SA := Lib.hid (SA.out.below hw5 (by omega))
    replace SB := Lib.hid (SB.out.below hw5 (by omega))
    replace Va := Lib.hid (Va.out.below hw5 (by omega))
    replace Vb := Lib.hid (Vb.out.below hw5 (by omega))
    clear hw5
    rw [absD_symm, Hd.out]
    cases hsm : sameB aw ah an f bw bh bn g
    · have hd1 : d = -1 := by rw [← Hd.out]; exact absD_neg hsm
      subst hd1
      clear hsm
      go_wp2_with fail
      refine (alive_any _).mono ?_; rintro e w6 ⟨rfl, hw6⟩
      go_wp2_with fail
      go_ret
      exact ⟨rfl, HB.out.trans (hw6.mono (by have := HB.out.size; omega))⟩
    · have hd0 := diff_law hsm
      rw [Hd.out] at hd0
      obtain ⟨⟨d0, d1⟩, _, _, d4⟩ := hd0
      have hso := sameB_out hsm
      obtain ⟨q1, q2, q3, q4, rfl, q6, _⟩ := hso
      have H0 := Lib.hid (absD_self q1)
      clear q1 q2 q3 q4 q6 hsm
      have hdn : ¬ d < 0 := by omega
      obtain ⟨ez, hez⟩ : ∃ ez, (d == 0) = ez := ⟨_, rfl⟩
      have HEZ := Lib.hid (show ez = true ↔ ∀ i, i < an → f i = g i by rw [← hez, beq_iff_eq]; exact d4)
      clear d4
      have eb : (ez == ez) = true := by cases ez <;> rfl
      have ew : IntKind.i64.wrap (255 * (an : Int)) = 255 * (an : Int) := IntWalk.i64_in _ (by omega)
      have SA1 := SA.out
      obtain ⟨ua, uc, rfl, _, hcl⟩ := SA1
      clear hcl hu1
      have c2 := Va.out.c2; have b2 := Vb.out.c2
      go_wp2_with fail
      refine (sameInts_dec (.slice ua an uc) ub an f g ez _ (SA.out.sr.mono (by omega)) (SB.out.sr.mono (by omega)) HEZ.out (by omega)).mono ?_; rintro e w6 ⟨rfl, hw6⟩
      have zw6 : w5.heap.size ≤ w6.heap.size := hw6.size
      replace HB := Lib.hid (HB.out.trans (hw6.mono (by omega)))
      replace SA := Lib.hid (SA.out.below hw6 (by omega))
      replace SB := Lib.hid (SB.out.below hw6 (by omega))
      replace Va := Lib.hid (Va.out.below hw6 (by omega))
      replace Vb := Lib.hid (Vb.out.below hw6 (by omega))
      clear hw6
      clear c2 b2
      have c2 := Va.out.c2
      go_wp2_with (first | refine loadP (w1.heap.size) Va.out rfl rfl rfl ?_)
      refine (iAbsoluteDifference_any aw ah (.slice ua an uc) an f aw ah (.slice ua an uc) an f _ (SA.out.sr.mono (by omega)) (SA.out.sr.mono (by omega)) (by omega) (by omega)).mono ?_; rintro e w7 ⟨rfl, hw7⟩
      have zw7 : w6.heap.size ≤ w7.heap.size := hw7.size
      replace HB := Lib.hid (HB.out.trans (hw7.mono (by omega)))
      replace SA := Lib.hid (SA.out.below hw7 (by omega))
      replace SB := Lib.hid (SB.out.below hw7 (by omega))
      replace Va := Lib.hid (Va.out.below hw7 (by omega))
      replace Vb := Lib.hid (Vb.out.below hw7 (by omega))
      clear hw7
      rw [H0.out]
      go_wp2_with fail
      go_ret
      exact ⟨rfl, HB.out⟩

end Go.Proofs.Ytinmfeflbaeodaa
