/- The walks of the laws on signed indices whose argument is a code to draw from. -/
import Derived.Test.YthehnbdkeecibaaPicture
import Derived.Test.YthehnbdkeecibaaOpenRow
namespace Go.Proofs.Ythehnbdkeecibaa
open Go.RowKit

theorem sidx_out (v : Int) (h : v < -32767 ∨ 32767 < v) : sidx v = -1 := by unfold sidx; rw [if_pos h]
theorem sidx_pos (v : Int) (h1 : 0 < v) (h2 : v ≤ 32767) : sidx v = 2 * v - 1 := by unfold sidx; rw [if_neg (by omega), if_pos h1]
theorem sidx_neg (v : Int) (h1 : v ≤ 0) (h2 : -32767 ≤ v) : sidx v = -2 * v := by unfold sidx; rw [if_neg (by omega), if_neg (by omega)]
theorem sval_sidx (v : Int) (h1 : -32767 ≤ v) (h2 : v ≤ 32767) : sval (sidx v) = v := by
  by_cases h : 0 < v
  · rw [sidx_pos v h h2]; unfold sval; rw [if_neg (by omega), if_pos (by omega)]; omega
  · rw [sidx_neg v (by omega) h1]; unfold sval; rw [if_neg (by omega), if_neg (by omega)]; omega

theorem FnSignedIndex_walk (a : Option Addr) (len cap : Nat) (zs : List Int) (w : World) (h : IsRow .u8 w a len cap zs) :
    Calls Try.prog 6 #[.slice a len cap] w fun e w' => e = .returned (.bool true) ∧ Below w.heap.size w w' := by
  obtain ⟨hs, hm⟩ := h.bytes
  unfold maxLen at hm
  clear h
  by_cases hl : 1048576 < len
  · clear hs
    go_enter Try.func6, Try.ntmps6
    go_wp2
    go_ret
    exact ⟨rfl, Below.refl _ _⟩
  · have HS := Lib.hid hs; clear hs
    go_enter Try.func6, Try.ntmps6
    go_wp2_with fail
    refine (DrawSignedIndex_any _ len _ _ HS.out (by omega)).mono ?_; rintro e w1 ⟨v, rfl, v0, v1, hb⟩
    have HB := Lib.hid hb; clear hb HS
    by_cases ho : v < -32767 ∨ 32767 < v
    · have HE := Lib.hid (sidx_out v ho)
      have HO := Lib.hid ho; clear ho
      go_wp2_with fail
      refine (iSignedIndex_any _ _).mono ?_; rintro e w' ⟨rfl, rfl⟩
      rw [HE.out]
      go_wp2_with fail
      refine (sSignedIndex_any _ _).mono ?_; rintro e w' ⟨rfl, rfl⟩
      rw [HE.out]
      by_cases h1 : v < -32767
      · go_wp2_with fail
        go_ret
        exact ⟨rfl, HB.out⟩
      · have h2 : 32767 < v := by have := HO.out; omega
        go_wp2_with fail
        go_ret
        exact ⟨rfl, HB.out⟩
    · have a1 : -32767 ≤ v := by omega
      have a2 : v ≤ 32767 := by omega
      clear ho
      have HV := Lib.hid (sval_sidx v a1 a2)
      rcases Int.lt_trichotomy v 0 with hv | hv | hv
      · have HE := Lib.hid (sidx_neg v (by omega) a1)
        have HA := Lib.hid (show absI v = -v by unfold absI; rw [if_pos hv])
        have HD := Lib.hid (show v.tdiv (-v) = -1 by rw [Int.tdiv_neg, Int.tdiv_self (by omega)])
        have HF := Lib.hid (show sidx (v + 1) < sidx v by rw [sidx_neg v (by omega) a1, sidx_neg (v + 1) (by omega) (by omega)]; omega)
        have z0 : (v == 0) = false := by simp; omega
        generalize hs : sidx v = s at *
        have HS := Lib.hid hs; clear hs
        have s0 : 0 ≤ s ∧ s ≤ 65534 := by have := HE.out; omega
        go_wp2_with fail
        refine (iSignedIndex_any _ _).mono ?_; rintro e w' ⟨rfl, rfl⟩
        rw [HS.out]
        go_wp2_with fail
        refine (sSignedIndex_any _ _).mono ?_; rintro e w' ⟨rfl, rfl⟩
        rw [HS.out]
        go_wp2_with fail
        refine (iSignedValue_any _ _).mono ?_; rintro e w' ⟨rfl, rfl⟩
        rw [HV.out]
        go_wp2_with fail
        refine (labs_any _ _ (by omega) (by omega)).mono ?_; rintro e w' ⟨rfl, rfl⟩
        rw [HA.out]
        have hd := HD.out
        go_wp2_with fail
        refine (iSignedIndex_any (v + 1) _).mono ?_; rintro e w' ⟨rfl, rfl⟩
        have hf := HF.out
        go_wp2_with fail
        go_ret
        exact ⟨rfl, HB.out⟩
      · subst hv
        have HE := Lib.hid (show sidx 0 = 0 from rfl)
        have HV2 := Lib.hid (show sval 0 = 0 from rfl)
        go_wp2_with fail
        refine (iSignedIndex_any _ _).mono ?_; rintro e w' ⟨rfl, rfl⟩
        rw [HE.out]
        go_wp2_with fail
        refine (sSignedIndex_any _ _).mono ?_; rintro e w' ⟨rfl, rfl⟩
        rw [HE.out]
        go_wp2_with fail
        refine (iSignedValue_any _ _).mono ?_; rintro e w' ⟨rfl, rfl⟩
        rw [HV2.out]
        go_wp2_with fail
        go_ret
        exact ⟨rfl, HB.out⟩
      · have HE := Lib.hid (sidx_pos v (by omega) a2)
        have HA := Lib.hid (show absI v = v by unfold absI; rw [if_neg (by omega)])
        have HD := Lib.hid (show v.tdiv v = 1 from Int.tdiv_self (by omega))
        have HF := Lib.hid (show sidx (v - 1) < sidx v by
          rw [sidx_pos v (by omega) a2]
          by_cases e : v = 1
          · subst e; rw [sidx_neg (1 - 1) (by omega) (by omega)]; omega
          · rw [sidx_pos (v - 1) (by omega) (by omega)]; omega)
        have z0 : (v == 0) = false := by simp; omega
        generalize hs : sidx v = s at *
        have HS := Lib.hid hs; clear hs
        have s0 : 0 ≤ s ∧ s ≤ 65534 := by have := HE.out; omega
        go_wp2_with fail
        refine (iSignedIndex_any _ _).mono ?_; rintro e w' ⟨rfl, rfl⟩
        rw [HS.out]
        go_wp2_with fail
        refine (sSignedIndex_any _ _).mono ?_; rintro e w' ⟨rfl, rfl⟩
        rw [HS.out]
        go_wp2_with fail
        refine (iSignedValue_any _ _).mono ?_; rintro e w' ⟨rfl, rfl⟩
        rw [HV.out]
        go_wp2_with fail
        refine (labs_any _ _ (by omega) (by omega)).mono ?_; rintro e w' ⟨rfl, rfl⟩
        rw [HA.out]
        have hd := HD.out
        go_wp2_with fail
        refine (iSignedIndex_any (v - 1) _).mono ?_; rintro e w' ⟨rfl, rfl⟩
        have hf := HF.out
        go_wp2_with fail
        go_ret
        exact ⟨rfl, HB.out⟩
theorem sidx_sval (n : Int) (h1 : 0 ≤ n) (h2 : n ≤ 65534) : sidx (sval n) = n := by
  by_cases h : n % 2 = 1
  · have e : sval n = (n + 1) / 2 := by unfold sval; rw [if_neg (by omega), if_pos h]
    rw [e, sidx_pos _ (by omega) (by omega)]; omega
  · have e : sval n = -(n / 2) := by unfold sval; rw [if_neg (by omega), if_neg h]
    rw [e, sidx_neg _ (by omega) (by omega)]; omega
theorem FnSignedValue_walk (a : Option Addr) (len cap : Nat) (zs : List Int) (w : World) (h : IsRow .u8 w a len cap zs) :
    Calls Try.prog 7 #[.slice a len cap] w fun e w' => e = .returned (.bool true) ∧ Below w.heap.size w w' := by
  obtain ⟨hs, hm⟩ := h.bytes
  unfold maxLen at hm
  clear h
  by_cases hl : 1048576 < len
  · clear hs
    go_enter Try.func7, Try.ntmps7
    go_wp2
    go_ret
    exact ⟨rfl, Below.refl _ _⟩
  · have HS := Lib.hid hs; clear hs
    go_enter Try.func7, Try.ntmps7
    go_wp2_with fail
    refine (DrawSignedValue_any _ len _ _ HS.out (by omega)).mono ?_; rintro e w1 ⟨n, rfl, v0, v1, hb⟩
    have HB := Lib.hid hb; clear hb HS
    by_cases h1 : n < 0
    · have HE := Lib.hid (show sval n = 0 by unfold sval; rw [if_pos (by omega)])
      go_wp2_with fail
      refine (iSignedValue_any _ _).mono ?_; rintro e w' ⟨rfl, rfl⟩
      rw [HE.out]
      go_wp2_with fail
      refine (sSignedValue_any _ _).mono ?_; rintro e w' ⟨rfl, rfl⟩
      rw [HE.out]
      go_wp2_with fail
      refine (alive_any _).mono ?_; rintro e w2 ⟨rfl, hb2⟩
      go_wp2_with fail
      go_ret
      exact ⟨rfl, HB.out.trans (hb2.mono HB.out.size)⟩
    · by_cases h2 : 65534 < n
      · have HE := Lib.hid (show sval n = 0 by unfold sval; rw [if_pos (by omega)])
        go_wp2_with fail
        refine (iSignedValue_any _ _).mono ?_; rintro e w' ⟨rfl, rfl⟩
        rw [HE.out]
        go_wp2_with fail
        refine (sSignedValue_any _ _).mono ?_; rintro e w' ⟨rfl, rfl⟩
        rw [HE.out]
        go_wp2_with fail
        refine (alive_any _).mono ?_; rintro e w2 ⟨rfl, hb2⟩
        go_wp2_with fail
        go_ret
        exact ⟨rfl, HB.out.trans (hb2.mono HB.out.size)⟩
      · have HE := Lib.hid (sidx_sval n (by omega) (by omega))
        by_cases h3 : n = 0
        · subst h3
          have HV := Lib.hid (show sval 0 = 0 from rfl)
          have HV2 := Lib.hid (show sidx 0 = 0 from rfl)
          go_wp2_with fail
          refine (iSignedValue_any _ _).mono ?_; rintro e w' ⟨rfl, rfl⟩
          rw [HV.out]
          go_wp2_with fail
          refine (sSignedValue_any _ _).mono ?_; rintro e w' ⟨rfl, rfl⟩
          rw [HV.out]
          go_wp2_with fail
          refine (iSignedIndex_any _ _).mono ?_; rintro e w' ⟨rfl, rfl⟩
          rw [HV2.out]
          go_wp2_with fail
          go_ret
          exact ⟨rfl, HB.out⟩
        · have z0 : (n == 0) = false := by simp; omega
          clear h3
          by_cases h3 : n % 2 = 1
          · have hp : 0 < sval n := by unfold sval; rw [if_neg (by omega), if_pos h3]; omega
            have hm1 : (n % 2 == 1) = true := by simp; omega
            have H3 := Lib.hid h3; clear h3
            go_wp2_with fail
            refine (iSignedValue_any _ _).mono ?_; rintro e w' ⟨rfl, rfl⟩
            go_wp2_with fail
            refine (sSignedValue_any _ _).mono ?_; rintro e w' ⟨rfl, rfl⟩
            go_wp2_with fail
            refine (iSignedIndex_any _ _).mono ?_; rintro e w' ⟨rfl, rfl⟩
            rw [HE.out]
            go_wp2_with fail
            go_ret
            exact ⟨rfl, HB.out⟩
          · have hp : decide (0 < sval n) = false := by unfold sval; rw [if_neg (by omega), if_neg h3]; simp; omega
            have hm1 : (n % 2 == 1) = false := by simp; omega
            have H3 := Lib.hid h3; clear h3
            go_wp2_with fail
            refine (iSignedValue_any _ _).mono ?_; rintro e w' ⟨rfl, rfl⟩
            go_wp2_with fail
            refine (sSignedValue_any _ _).mono ?_; rintro e w' ⟨rfl, rfl⟩
            go_wp2_with fail
            refine (iSignedIndex_any _ _).mono ?_; rintro e w' ⟨rfl, rfl⟩
            rw [HE.out]
            go_wp2_with fail
            go_ret
            exact ⟨rfl, HB.out⟩
end Go.Proofs.Ythehnbdkeecibaa
