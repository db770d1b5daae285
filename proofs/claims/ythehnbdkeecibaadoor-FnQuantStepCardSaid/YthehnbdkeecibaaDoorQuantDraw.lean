/- The walks of the laws on the quantizer whose argument is a code to draw from. -/
import Derived.Test.YthehnbdkeecibaaDoorQDraw
import Derived.Test.YthehnbdkeecibaaDoorQuant
import Derived.Test.YthehnbdkeecibaaDoorPicture
import Derived.Test.YthehnbdkeecibaaDoorOpenRow
namespace Go.Proofs.YthehnbdkeecibaaDoor
open Go.RowKit

theorem stepN_next : ∀ k, k < 15 → stepN k < stepN (k + 1) ∧ stepN (k + 1) ≤ 3 * stepN k := by decide
theorem stepOf_next (q : Int) (h1 : 0 ≤ q) (h2 : q < 15) : stepOf q < stepOf (q + 1) ∧ stepOf (q + 1) ≤ 3 * stepOf q := by
  obtain ⟨k, rfl⟩ := Int.eq_ofNat_of_zero_le h1
  have e : ((k : Int) + 1) = ((k + 1 : Nat) : Int) := by omega
  rw [e, stepOf_in k (by omega), stepOf_in (k + 1) (by omega)]
  exact stepN_next k (by omega)

theorem FnQuantStep_walk (a : Option Addr) (len cap : Nat) (zs : List Int) (w : World) (h : IsRow .u8 w a len cap zs) (ht : HasTab w) :
    Calls Tryd.prog 6 #[.slice a len cap] w fun e w' => e = .returned (.bool true) ∧ Below w.heap.size w w' := by
  obtain ⟨hs, hm⟩ := h.bytes
  unfold maxLen at hm
  clear h
  by_cases hl : 1048576 < len
  · clear hs ht
    go_enter Tryd.func6, Tryd.ntmps6
    go_wp2
    go_ret
    exact ⟨rfl, Below.refl _ _⟩
  · have HS := Lib.hid hs; clear hs
    have HT := Lib.hid ht; clear ht
    go_enter Tryd.func6, Tryd.ntmps6
    go_wp2_with fail
    refine (DrawQuantStep_any _ len _ _ HS.out (by omega)).mono ?_; rintro e w1 ⟨q, rfl, q0, q1, hb⟩
    have HB := Lib.hid hb; have HT1 := Lib.hid (HT.out.below hb HT.out.size); clear hb HS
    go_wp2_with fail
    refine (iQuantStep_any _ _ HT1.out).mono ?_; rintro e w' ⟨rfl, rfl⟩
    go_wp2_with fail
    refine (sQuantStep_any _ _).mono ?_; rintro e w2 ⟨rfl, hb2⟩
    have HB2 := Lib.hid (HB.out.trans (hb2.mono HB.out.size)); have HT2 := Lib.hid (HT1.out.below hb2 HT1.out.size); clear hb2
    by_cases ho : q < 0 ∨ 15 < q
    · have HE := Lib.hid (stepOf_out q ho)
      have HO := Lib.hid ho; clear ho
      generalize hs : stepOf q = s at *
      have e : s = 0 := HE.out
      clear hs HE
      subst e
      by_cases h1 : q < 0
      · go_wp2_with fail
        refine (alive_any _).mono ?_; rintro e w3 ⟨rfl, hb3⟩
        go_wp2_with fail
        go_ret
        exact ⟨rfl, HB2.out.trans (hb3.mono HB2.out.size)⟩
      · have h2 : 15 < q := by have := HO.out; omega
        go_wp2_with fail
        refine (alive_any _).mono ?_; rintro e w3 ⟨rfl, hb3⟩
        go_wp2_with fail
        go_ret
        exact ⟨rfl, HB2.out.trans (hb3.mono HB2.out.size)⟩
    · have a1 : 0 ≤ q := by omega
      have a2 : q ≤ 15 := by omega
      clear ho
      have hbd := stepOf_bd q a1 a2
      have H0 := Lib.hid (show stepOf 0 = 1 from rfl)
      by_cases h15 : q = 15
      · have z : (q == 15) = true := by simp [h15]
        clear h15
        go_wp2_with fail
        refine (iQuantStep_any _ _ HT2.out).mono ?_; rintro e w' ⟨rfl, rfl⟩
        rw [H0.out]
        go_wp2_with fail
        go_ret
        exact ⟨rfl, HB2.out⟩
      · have z : (q == 15) = false := by simp [h15]
        have hn := stepOf_next q a1 (by omega)
        have hbn := stepOf_bd (q + 1) (by omega) (by omega)
        clear h15
        go_wp2_with fail
        refine (iQuantStep_any _ _ HT2.out).mono ?_; rintro e w' ⟨rfl, rfl⟩
        rw [H0.out]
        go_wp2_with fail
        refine (iQuantStep_any _ _ HT2.out).mono ?_; rintro e w' ⟨rfl, rfl⟩
        go_wp2_with fail
        refine (iQuantStep_any _ _ HT2.out).mono ?_; rintro e w' ⟨rfl, rfl⟩
        go_wp2_with fail
        go_ret
        exact ⟨rfl, HB2.out⟩
end Go.Proofs.YthehnbdkeecibaaDoor
