/- The walk of a law on two pictures. -/
import Derived.Test.YtinmfeflbaeodaaPairMath
import Derived.Test.YtinmfeflbaeodaaDrawPic5
import Derived.Deep.Cut
namespace Go.Proofs.Ytinmfeflbaeodaa
open Go.RowKit

theorem mul_small {q : Int} {n : Nat} (h0 : 0 ≤ q) (h1 : q ≤ 66585600) (hn : n ≤ 1024) : 0 ≤ q * (n : Int) ∧ q * (n : Int) ≤ 68183654400 := by
  obtain ⟨k, rfl⟩ := Int.eq_ofNat_of_zero_le h0
  have : k * n ≤ 66585600 * 1024 := Nat.mul_le_mul (by omega) hn
  rw [← Int.natCast_mul]
  omega
theorem mul_self_small {d : Int} (h0 : 0 ≤ d) (h1 : d ≤ 261120) : 0 ≤ d * d ∧ d * d ≤ 68183654400 := by
  obtain ⟨k, rfl⟩ := Int.eq_ofNat_of_zero_le h0
  have : k * k ≤ 261120 * 261120 := Nat.mul_le_mul (by omega) (by omega)
  rw [← Int.natCast_mul]
  omega
set_option maxRecDepth 100000 in
set_option maxHeartbeats 4000000 in
theorem FnSquaredDifference_walk (a : Option Addr) (len cap : Nat) (zs : List Int) (w : World) (h : IsRow .u8 w a len cap zs) :
    Calls Try.prog 8 #[.slice a len cap] w fun e w' => e = .returned (.bool true) ∧ Below w.heap.size w w' := by
  obtain ⟨hs, hm⟩ := h.bytes
  unfold maxLen at hm
  clear h
  by_cases hl : 1048576 < len
  · clear hs
    go_enter Try.func8, Try.ntmps8
    go_wp2
    go_ret
    exact ⟨rfl, Below.refl _ _⟩
  · have HS := Lib.hid hs; clear hs
    have HB := Lib.hid (Below.refl w.heap.size w)
    go_enter Try.func8, Try.ntmps8
    go_wp2_with fail
    refine (DrawSquaredDifference_any _ len _ _ HS.out (by omega)).mono ?_; rintro e w1 ⟨aw, ah, u, an, f, bw, bh, ub, bn, g, rfl, ⟨hSa, han⟩, ⟨hSb, hbn⟩, hw1⟩
    have zw1 : w.heap.size ≤ w1.heap.size := hw1.size
    replace HB := Lib.hid (HB.out.trans (hw1.mono (by omega)))
    clear hw1
    have hu1 := hSa.one; have hv1 := hSb.one
    have SA := Lib.hid hSa; have SB := Lib.hid hSb; clear hSa hSb
    have HN1 := Lib.hid (show PicB ((w1.alloc (.cells #[.int .i64 0, .int .i64 0, .slice none 0 0] 25)).alloc (.cells #[.int .i64 0, .int .i64 0, .slice none 0 0] 25)) w1.heap.size 0 0 (.slice none 0 0) from (PicB.new' rfl).alloc _)
    have HN2 := Lib.hid (show PicB (((w1.alloc (.cells #[.int .i64 0, .int .i64 0, .slice none 0 0] 25)).alloc (.cells #[.int .i64 0, .int .i64 0, .slice none 0 0] 25)).setRow w1.heap.size #[.int .i64 aw, .int .i64 ah, u]) (w1.heap.size + 1) 0 0 (.slice none 0 0) from PicB.setRowOther' (PicB.new' (by simp)) _ (by omega))
    obtain ⟨w2, hw⟩ : ∃ x, x = (((w1.alloc (.cells #[.int .i64 0, .int .i64 0, .slice none 0 0] 25)).alloc (.cells #[.int .i64 0, .int .i64 0, .slice none 0 0] 25)).setRow w1.heap.size #[.int .i64 aw, .int .i64 ah, u]).setRow (w1.heap.size + 1) #[.int .i64 bw, .int .i64 bh, ub] := ⟨_, rfl⟩
    have hVa : PicB w2 w1.heap.size aw ah u := by rw [hw]; exact (HN1.out.setRow _ _ _).setRowOther' _ (by omega)
    have hVb : PicB w2 (w1.heap.size + 1) bw bh ub := by rw [hw]; exact HN2.out.setRow _ _ _
    have hw2 : Below w1.heap.size w1 w2 := by rw [hw]; exact below_setRow (below_setRow (((Below.refl _ _).alloc (Nat.le_refl _) _).alloc (by simp) _) (Nat.le_refl _) _) (by omega) _
    have zw2 : w1.heap.size + 1 < w2.heap.size := by rw [hw]; simp
    have HW := Lib.hid hw; clear hw
    replace HB := Lib.hid (HB.out.trans (hw2.mono (by omega)))
    replace SA := Lib.hid (SA.out.below hw2 (by omega))
    replace SB := Lib.hid (SB.out.below hw2 (by omega))
    have Va := Lib.hid hVa; have Vb := Lib.hid hVb; clear hVa hVb hw2
    go_wp2_with (first | refine storeP (w1.heap.size) HN1.out hu1 rfl rfl rfl rfl ?_ | (refine storeP (w1.heap.size + 1) HN2.out hv1 rfl rfl rfl rfl ?_; rw [← HW.out]) | refine loadP (w1.heap.size) Va.out rfl rfl rfl ?_ | refine loadP (w1.heap.size + 1) Vb.out rfl rfl rfl ?_)
    clear HW HN1 HN2
    obtain ⟨q, hq⟩ : ∃ z, sqD aw ah an f bw bh bn g = z := ⟨_, rfl⟩
    have Hq := Lib.hid hq; clear hq
    have nq : (q != q) = false := by simp
    have eq : (q == q) = true := by simp
    obtain ⟨d, hd⟩ : ∃ z, absD aw ah an f bw bh bn g = z := ⟨_, rfl⟩
    have Hd := Lib.hid hd; clear hd
    have nd : (d != d) = false := by simp
    have ed : (d == d) = true := by simp
    refine (iSquaredDifference_any aw ah u an f bw bh ub bn g _ (SA.out.sr.mono (by omega)) (SB.out.sr.mono (by omega)) (by omega) (by omega)).mono ?_; rintro e w3 ⟨rfl, hw3⟩
    have zw3 : w2.heap.size ≤ w3.heap.size := hw3.size
    replace HB := Lib.hid (HB.out.trans (hw3.mono (by omega)))
    replace SA := Lib.hid (SA.out.below hw3 (by omega))
    replace SB := Lib.hid (SB.out.below hw3 (by omega))
    replace Va := Lib.hid (Va.out.below hw3 (by omega))
    replace Vb := Lib.hid (Vb.out.below hw3 (by omega))
    clear hw3
    rw [Hq.out]
    go_wp2_with (first | refine loadP (w1.heap.size) Va.out rfl rfl rfl ?_ | refine loadP (w1.heap.size + 1) Vb.out rfl rfl rfl ?_)
    refine (sSquaredDifference_any aw ah u an f bw bh ub bn g _ (SA.out.sr.mono (by omega)) (SB.out.sr.mono (by omega)) (by omega) (by omega)).mono ?_; rintro e w4 ⟨rfl, hw4⟩
    have zw4 : w3.heap.size ≤ w4.heap.size := hw4.size
    replace HB := Lib.hid (HB.out.trans (hw4.mono (by omega)))
    replace SA := Lib.hid (SA.out.below hw4 (by omega))
    replace SB := Lib.hid (SB.out.below hw4 (by omega))
    replace Va := Lib.hid (Va.out.below hw4 (by omega))
    replace Vb := Lib.hid (Vb.out.below hw4 (by omega))
    clear hw4
    rw [Hq.out]
    go_wp2_with (first | refine loadP (w1.heap.size) Va.out rfl rfl rfl ?_ | refine loadP (w1.heap.size + 1) Vb.out rfl rfl rfl ?_)
    refine (iAbsoluteDifference_any aw ah u an f bw bh ub bn g _ (SA.out.sr.mono (by omega)) (SB.out.sr.mono (by omega)) (by omega) (by omega)).mono ?_; rintro e w5 ⟨rfl, hw5⟩
    have zw5 : w4.heap.size ≤ w5.heap.size := hw5.size
    replace HB := Lib.hid (HB.out.trans (hw5.mono (by omega)))
    replace SA := Lib.hid (SA.out.below hw5 (by omega))
    replace SB := Lib.hid (SB.out.below hw5 (by omega))
    replace Va := Lib.hid (Va.out.below hw5 (by omega))
    replace Vb := Lib.hid (Vb.out.below hw5 (by omega))
    clear hw5
    rw [Hd.out]
    clear nq eq
    cases hsm : sameB aw ah an f bw bh bn g
    · have hd1 : d = -1 := by rw [← Hd.out]; exact absD_neg hsm
      have hq1 : q = -1 := by rw [← Hq.out]; exact sqD_neg hsm
      subst hd1 hq1
      clear hsm
      go_wp2_with fail
      refine (alive_any _).mono ?_; rintro e w6 ⟨rfl, hw6⟩
      go_wp2_with fail
      go_ret
      exact ⟨rfl, HB.out.trans (hw6.mono (by have := HB.out.size; omega))⟩
    · have hd0 := diff_law hsm
      rw [Hd.out, Hq.out] at hd0
      obtain ⟨⟨d0, d1⟩, ⟨d2, d3⟩, d4, _⟩ := hd0
      have hqn : ¬ q < 0 := by omega
      clear hsm
      have m1 := mul_small (q := q) (n := an) (by omega) (by omega) han
      have m2 := mul_self_small (d := d) d0 (by omega)
      have ew1 : IntKind.i64.wrap (255 * d) = 255 * d := IntWalk.i64_in _ (by omega)
      have ew2 : IntKind.i64.wrap (q * (an : Int)) = q * (an : Int) := IntWalk.i64_in _ (by omega)
      have ew3 : IntKind.i64.wrap (d * d) = d * d := IntWalk.i64_in _ (by omega)
      have SA1 := SA.out
      obtain ⟨ua, uc, rfl, _, hcl⟩ := SA1
      clear hcl hu1
      have c2 := Va.out.c2
      go_wp2_with fail
      go_ret
      exact ⟨rfl, HB.out⟩

end Go.Proofs.Ytinmfeflbaeodaa
