/- The walks of the laws on blocks whose argument is a code to draw from. -/
import Derived.Test.YthehnbdkeecibaaDoorQMath
import Derived.Test.YthehnbdkeecibaaDoorQDraw
import Derived.Test.YthehnbdkeecibaaDoorPicture
import Derived.Test.YthehnbdkeecibaaDoorOpenRow
import Derived.Deep.RegionHeld3
namespace Go.Proofs.YthehnbdkeecibaaDoor
open Go.RowKit

theorem DrawDequantize_any (v : Value) (n : Nat) (b : Nat → Int) (w : World) (h : SlB w.heap.size w v n b) (hn : n ≤ 1000000000000) :
    Calls Tryd.prog 17 #[v] w (CQDrawn w) := by
  have H := Lib.hid h; clear h
  go_enter Tryd.func17, Tryd.ntmps17
  go_wp2_with fail
  refine (DrawQuantize_any v n b _ H.out hn).mono ?_; rintro e w1 ⟨c, q, rfl, c0, c1, q0, q1, hb⟩
  go_wp2_with fail
  go_ret2
  exact ⟨c, q, rfl, c0, c1, q0, q1, hb⟩
set_option maxRecDepth 100000 in
set_option maxHeartbeats 4000000 in
theorem FnQuantize_walk (a : Option Addr) (len cap : Nat) (zs : List Int) (w : World) (h : IsRow .u8 w a len cap zs) (ht : HasTab w) :
    Calls Tryd.prog 8 #[.slice a len cap] w fun e w' => e = .returned (.bool true) ∧ Below w.heap.size w w' := by
  obtain ⟨hs, hm⟩ := h.bytes
  unfold maxLen at hm
  clear h
  by_cases hl : 1048576 < len
  · clear hs ht
    go_enter Tryd.func8, Tryd.ntmps8
    go_wp2
    go_ret
    exact ⟨rfl, Below.refl _ _⟩
  · have HS := Lib.hid hs; clear hs
    have HB := Lib.hid (Below.refl w.heap.size w)
    have HT := Lib.hid ht; clear ht
    go_enter Tryd.func8, Tryd.ntmps8
    go_wp2_with fail
    refine (DrawQuantize_any _ len _ _ HS.out (by omega)).mono ?_; rintro e w1 ⟨c, q, rfl, c0, c1, q0, q1, hw1⟩
    have zw1 : w.heap.size ≤ w1.heap.size := hw1.size
    replace HB := Lib.hid (HB.out.trans (hw1.mono (by omega)))
    replace HT := Lib.hid (HT.out.below (hw1) HT.out.size)
    clear hw1
    go_wp2_with fail
    refine (iQuantize_any _ _ _ HT.out).mono ?_; rintro e w2 ⟨rfl, hw2⟩
    have zw2 : w1.heap.size ≤ w2.heap.size := hw2.size
    replace HB := Lib.hid (HB.out.trans (hw2.mono (by omega)))
    replace HT := Lib.hid (HT.out.below (hw2) HT.out.size)
    clear hw2
    go_wp2_with fail
    refine (sQuantize_any _ _ _).mono ?_; rintro e w3 ⟨rfl, hw3⟩
    have zw3 : w2.heap.size ≤ w3.heap.size := hw3.size
    replace HB := Lib.hid (HB.out.trans (hw3.mono (by omega)))
    replace HT := Lib.hid (HT.out.below (hw3) HT.out.size)
    clear hw3
    by_cases ho : c < -4080 ∨ 4080 < c ∨ q < 0 ∨ 15 < q
    · have HZ := Lib.hid (quant_out c q ho)
      generalize quantI c q = z at *
      have hz : z = 0 := HZ.out
      clear HZ
      subst hz
      have hab : -9223372036854775807 ≤ c ∧ c ≤ 9223372036854775807 := by omega
      by_cases h1 : 4080 < absI c
      · clear ho
        go_wp2_with fail
        refine (labs_any _ _ (by omega) (by omega)).mono ?_; rintro e _ ⟨rfl, rfl⟩
        go_wp2_with fail
        refine (alive_any _).mono ?_; rintro e wx ⟨rfl, hx⟩
        go_wp2_with fail
        go_ret
        exact ⟨rfl, HB.out.trans (hx.mono HB.out.size)⟩
      · have hq : q < 0 ∨ 15 < q := by unfold absI at h1; omega
        have HQ := Lib.hid hq; clear hq ho
        by_cases h2 : q < 0
        · skip
          go_wp2_with fail
          refine (labs_any _ _ (by omega) (by omega)).mono ?_; rintro e _ ⟨rfl, rfl⟩
          go_wp2_with fail
          refine (alive_any _).mono ?_; rintro e wx ⟨rfl, hx⟩
          go_wp2_with fail
          go_ret
          exact ⟨rfl, HB.out.trans (hx.mono HB.out.size)⟩
        · have h3 : 15 < q := by have := HQ.out; omega
          go_wp2_with fail
          refine (labs_any _ _ (by omega) (by omega)).mono ?_; rintro e _ ⟨rfl, rfl⟩
          go_wp2_with fail
          refine (alive_any _).mono ?_; rintro e wx ⟨rfl, hx⟩
          go_wp2_with fail
          go_ret
          exact ⟨rfl, HB.out.trans (hx.mono HB.out.size)⟩
    · have a1 : -4080 ≤ c := by omega
      have a2 : c ≤ 4080 := by omega
      have a3 : 0 ≤ q := by omega
      have a4 : q ≤ 15 := by omega
      clear ho
      have hac : absI c ≤ 4080 ∧ 0 ≤ absI c := by unfold absI; omega
      obtain ⟨f1, f2, f3, f4, f5⟩ := quant_facts c q a1 a2 a3 a4
      have hs := stepOf_bd q a3 a4
      have e2 : (quantI (-c) q == -quantI c q) = true := by simp [f2]
      have e3 : (deqI (quantI c 0) 0 == c) = true := by simp [f3]
      have hd0 : 0 ≤ absI (c - deqI (quantI c q) q) := by unfold absI; omega
      clear f2 f3
      go_wp2_with fail
      refine (labs_any _ _ (by omega) (by omega)).mono ?_; rintro e _ ⟨rfl, rfl⟩
      go_wp2_with fail
      refine (iDequantize_any _ _ _ HT.out).mono ?_; rintro e _ ⟨rfl, rfl⟩
      go_wp2_with fail
      refine (labs_any _ _ (by omega) (by omega)).mono ?_; rintro e _ ⟨rfl, rfl⟩
      go_wp2_with fail
      refine (iQuantStep_any _ _ HT.out).mono ?_; rintro e _ ⟨rfl, rfl⟩
      go_wp2_with fail
      refine (iQuantize_any _ _ _ HT.out).mono ?_; rintro e w4 ⟨rfl, hw4⟩
      have zw4 : w3.heap.size ≤ w4.heap.size := hw4.size
      replace HB := Lib.hid (HB.out.trans (hw4.mono (by omega)))
      replace HT := Lib.hid (HT.out.below (hw4) HT.out.size)
      clear hw4
      go_wp2_with fail
      refine (iQuantize_any _ _ _ HT.out).mono ?_; rintro e w5 ⟨rfl, hw5⟩
      have zw5 : w4.heap.size ≤ w5.heap.size := hw5.size
      replace HB := Lib.hid (HB.out.trans (hw5.mono (by omega)))
      replace HT := Lib.hid (HT.out.below (hw5) HT.out.size)
      clear hw5
      go_wp2_with fail
      refine (iDequantize_any _ _ _ HT.out).mono ?_; rintro e _ ⟨rfl, rfl⟩
      go_wp2_with fail
      go_ret
      exact ⟨rfl, HB.out⟩

set_option maxRecDepth 100000 in
set_option maxHeartbeats 4000000 in
theorem FnDequantize_walk (a : Option Addr) (len cap : Nat) (zs : List Int) (w : World) (h : IsRow .u8 w a len cap zs) (ht : HasTab w) :
    Calls Tryd.prog 7 #[.slice a len cap] w fun e w' => e = .returned (.bool true) ∧ Below w.heap.size w w' := by
  obtain ⟨hs, hm⟩ := h.bytes
  unfold maxLen at hm
  clear h
  by_cases hl : 1048576 < len
  · clear hs ht
    go_enter Tryd.func7, Tryd.ntmps7
    go_wp2
    go_ret
    exact ⟨rfl, Below.refl _ _⟩
  · have HS := Lib.hid hs; clear hs
    have HB := Lib.hid (Below.refl w.heap.size w)
    have HT := Lib.hid ht; clear ht
    go_enter Tryd.func7, Tryd.ntmps7
    go_wp2_with fail
    refine (DrawDequantize_any _ len _ _ HS.out (by omega)).mono ?_; rintro e w1 ⟨c, q, rfl, c0, c1, q0, q1, hw1⟩
    have zw1 : w.heap.size ≤ w1.heap.size := hw1.size
    replace HB := Lib.hid (HB.out.trans (hw1.mono (by omega)))
    replace HT := Lib.hid (HT.out.below (hw1) HT.out.size)
    clear hw1
    go_wp2_with fail
    refine (iDequantize_any _ _ _ HT.out).mono ?_; rintro e _ ⟨rfl, rfl⟩
    go_wp2_with fail
    refine (sDequantize_any _ _ _).mono ?_; rintro e w2 ⟨rfl, hw2⟩
    have zw2 : w1.heap.size ≤ w2.heap.size := hw2.size
    replace HB := Lib.hid (HB.out.trans (hw2.mono (by omega)))
    replace HT := Lib.hid (HT.out.below (hw2) HT.out.size)
    clear hw2
    by_cases ho : c < -4080 ∨ 4080 < c ∨ q < 0 ∨ 15 < q
    · have HZ := Lib.hid (deq_out c q ho)
      generalize deqI c q = z at *
      have hz : z = 0 := HZ.out
      clear HZ
      subst hz
      have hab : -9223372036854775807 ≤ c ∧ c ≤ 9223372036854775807 := by omega
      by_cases h1 : 4080 < absI c
      · clear ho
        go_wp2_with fail
        refine (labs_any _ _ (by omega) (by omega)).mono ?_; rintro e _ ⟨rfl, rfl⟩
        go_wp2_with fail
        refine (alive_any _).mono ?_; rintro e wx ⟨rfl, hx⟩
        go_wp2_with fail
        go_ret
        exact ⟨rfl, HB.out.trans (hx.mono HB.out.size)⟩
      · have hq : q < 0 ∨ 15 < q := by unfold absI at h1; omega
        have HQ := Lib.hid hq; clear hq ho
        by_cases h2 : q < 0
        · skip
          go_wp2_with fail
          refine (labs_any _ _ (by omega) (by omega)).mono ?_; rintro e _ ⟨rfl, rfl⟩
          go_wp2_with fail
          refine (alive_any _).mono ?_; rintro e wx ⟨rfl, hx⟩
          go_wp2_with fail
          go_ret
          exact ⟨rfl, HB.out.trans (hx.mono HB.out.size)⟩
        · have h3 : 15 < q := by have := HQ.out; omega
          go_wp2_with fail
          refine (labs_any _ _ (by omega) (by omega)).mono ?_; rintro e _ ⟨rfl, rfl⟩
          go_wp2_with fail
          refine (alive_any _).mono ?_; rintro e wx ⟨rfl, hx⟩
          go_wp2_with fail
          go_ret
          exact ⟨rfl, HB.out.trans (hx.mono HB.out.size)⟩
    · have a1 : -4080 ≤ c := by omega
      have a2 : c ≤ 4080 := by omega
      have a3 : 0 ≤ q := by omega
      have a4 : q ≤ 15 := by omega
      clear ho
      have hac : absI c ≤ 4080 ∧ 0 ≤ absI c := by unfold absI; omega
      obtain ⟨f1, f2, f3, f4, f5, f6⟩ := deq_facts c q a1 a2 a3 a4
      have hs := stepOf_bd q a3 a4
      have hd0 : 0 ≤ absI (deqI c q) := by unfold absI; omega
      have F2 := Lib.hid f2; have F4 := Lib.hid f4; clear f2 f4
      by_cases hmv : 4080 < absI c * stepOf q
      · clear f1
        go_wp2_with fail
        refine (labs_any _ _ (by omega) (by omega)).mono ?_; rintro e _ ⟨rfl, rfl⟩
        go_wp2_with fail
        refine (labs_any _ _ (by omega) (by omega)).mono ?_; rintro e _ ⟨rfl, rfl⟩
        go_wp2_with fail
        refine (iQuantStep_any _ _ HT.out).mono ?_; rintro e _ ⟨rfl, rfl⟩
        cases hz : (c == 0)
        case false =>
          have g2 : (deqI c q == 0) = false := by rw [← F2.out, hz]
          go_wp2_with fail
          refine (labs_any _ _ (by omega) (by omega)).mono ?_; rintro e _ ⟨rfl, rfl⟩
          have hiff := decide_eq_decide.1 F4.out
          by_cases hcn : c < 0
          · have hdn : deqI c q < 0 := hiff.1 hcn
            clear hiff
            go_wp2_with fail
            go_ret
            exact ⟨rfl, HB.out⟩
          · have hdn : ¬ deqI c q < 0 := fun h => hcn (hiff.2 h)
            have b1 : decide (c < 0) = false := decide_eq_false hcn
            have b2 : decide (deqI c q < 0) = false := decide_eq_false hdn
            clear hiff
            go_wp2_with fail
            go_ret
            exact ⟨rfl, HB.out⟩
        case true =>
          have g2 : (deqI c q == 0) = true := by rw [← F2.out, hz]
          go_wp2_with fail
          refine (labs_any _ _ (by omega) (by omega)).mono ?_; rintro e _ ⟨rfl, rfl⟩
          have hiff := decide_eq_decide.1 F4.out
          by_cases hcn : c < 0
          · have hdn : deqI c q < 0 := hiff.1 hcn
            clear hiff
            go_wp2_with fail
            go_ret
            exact ⟨rfl, HB.out⟩
          · have hdn : ¬ deqI c q < 0 := fun h => hcn (hiff.2 h)
            have b1 : decide (c < 0) = false := decide_eq_false hcn
            have b2 : decide (deqI c q < 0) = false := decide_eq_false hdn
            clear hiff
            go_wp2_with fail
            go_ret
            exact ⟨rfl, HB.out⟩
      · have e1 : (quantI (deqI c q) q == c) = true := by simp [f1 (by omega)]
        clear f1
        go_wp2_with fail
        refine (labs_any _ _ (by omega) (by omega)).mono ?_; rintro e _ ⟨rfl, rfl⟩
        go_wp2_with fail
        refine (labs_any _ _ (by omega) (by omega)).mono ?_; rintro e _ ⟨rfl, rfl⟩
        go_wp2_with fail
        refine (iQuantStep_any _ _ HT.out).mono ?_; rintro e _ ⟨rfl, rfl⟩
        go_wp2_with fail
        refine (iQuantize_any _ _ _ HT.out).mono ?_; rintro e w3 ⟨rfl, hw3⟩
        have zw3 : w2.heap.size ≤ w3.heap.size := hw3.size
        replace HB := Lib.hid (HB.out.trans (hw3.mono (by omega)))
        replace HT := Lib.hid (HT.out.below (hw3) HT.out.size)
        clear hw3
        cases hz : (c == 0)
        case false =>
          have g2 : (deqI c q == 0) = false := by rw [← F2.out, hz]
          go_wp2_with fail
          refine (labs_any _ _ (by omega) (by omega)).mono ?_; rintro e _ ⟨rfl, rfl⟩
          have hiff := decide_eq_decide.1 F4.out
          by_cases hcn : c < 0
          · have hdn : deqI c q < 0 := hiff.1 hcn
            clear hiff
            go_wp2_with fail
            go_ret
            exact ⟨rfl, HB.out⟩
          · have hdn : ¬ deqI c q < 0 := fun h => hcn (hiff.2 h)
            have b1 : decide (c < 0) = false := decide_eq_false hcn
            have b2 : decide (deqI c q < 0) = false := decide_eq_false hdn
            clear hiff
            go_wp2_with fail
            go_ret
            exact ⟨rfl, HB.out⟩
        case true =>
          have g2 : (deqI c q == 0) = true := by rw [← F2.out, hz]
          go_wp2_with fail
          refine (labs_any _ _ (by omega) (by omega)).mono ?_; rintro e _ ⟨rfl, rfl⟩
          have hiff := decide_eq_decide.1 F4.out
          by_cases hcn : c < 0
          · have hdn : deqI c q < 0 := hiff.1 hcn
            clear hiff
            go_wp2_with fail
            go_ret
            exact ⟨rfl, HB.out⟩
          · have hdn : ¬ deqI c q < 0 := fun h => hcn (hiff.2 h)
            have b1 : decide (c < 0) = false := decide_eq_false hcn
            have b2 : decide (deqI c q < 0) = false := decide_eq_false hdn
            clear hiff
            go_wp2_with fail
            go_ret
            exact ⟨rfl, HB.out⟩

end Go.Proofs.YthehnbdkeecibaaDoor
