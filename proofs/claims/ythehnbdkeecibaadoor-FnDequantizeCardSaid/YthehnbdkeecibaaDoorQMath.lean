/- Plain mathematics of the quantizer: no program in sight. -/
import Derived.Test.YthehnbdkeecibaaDoorQuant
namespace Go.Proofs.YthehnbdkeecibaaDoor
open Go.RowKit

/-- Quantizing and dequantizing a coefficient: the error is at most half a step. -/
theorem qua_err (c s : Int) (h1 : -4080 ≤ c) (h2 : c ≤ 4080) (h3 : 1 ≤ s) (h4 : s ≤ 512) :
    2 * (clampI (quaI c s * s) (-4080) 4080 - c) ≤ s ∧ -s ≤ 2 * (clampI (quaI c s * s) (-4080) 4080 - c) ∧ -4080 ≤ quaI c s ∧ quaI c s ≤ 4080 := by
  have key : ∀ a : Int, 0 ≤ a → a ≤ 4080 → 2 * ((2 * a + s) / (2 * s) * s - a) ≤ s ∧ -s ≤ 2 * ((2 * a + s) / (2 * s) * s - a) ∧ 0 ≤ (2 * a + s) / (2 * s) ∧ (2 * a + s) / (2 * s) ≤ a := by
    intro a ha ha2
    have e := Int.mul_ediv_add_emod (2 * a + s) (2 * s)
    have l := Int.emod_nonneg (2 * a + s) (show 2 * s ≠ 0 by omega)
    have u := Int.emod_lt_of_pos (2 * a + s) (show 0 < 2 * s by omega)
    have n : 0 ≤ (2 * a + s) / (2 * s) := Int.ediv_nonneg (by omega) (by omega)
    generalize (2 * a + s) / (2 * s) = q at *
    generalize (2 * a + s) % (2 * s) = r at *
    have m : 2 * s * q = 2 * (q * s) := by grind
    refine ⟨by omega, by omega, n, ?_⟩
    by_cases hq : q ≤ a
    · exact hq
    · exfalso
      have g : (a + 1) * s ≤ q * s := Int.mul_le_mul_of_nonneg_right (by omega) (by omega)
      have g2 : (a + 1) * s = a * s + s := by grind
      have g3 : a * 1 ≤ a * s := Int.mul_le_mul_of_nonneg_left h3 ha
      omega
  unfold quaI
  by_cases hc : c < 0
  · rw [if_pos hc]
    have e : absI c = -c := by unfold absI; rw [if_pos hc]
    rw [e]
    have k := key (-c) (by omega) (by omega)
    generalize (2 * -c + s) / (2 * s) = q at *
    rw [Int.neg_mul]
    generalize q * s = m at *
    unfold clampI
    omega
  · rw [if_neg hc]
    have e : absI c = c := by unfold absI; rw [if_neg hc]
    rw [e]
    have k := key c (by omega) (by omega)
    generalize (2 * c + s) / (2 * s) = q at *
    generalize q * s = m at *
    unfold clampI
    omega
theorem qua_one (c : Int) (h1 : -4080 ≤ c) (h2 : c ≤ 4080) : clampI (quaI c 1 * 1) (-4080) 4080 = c := by
  have := qua_err c 1 h1 h2 (by omega) (by omega)
  omega
theorem qua_neg (c s : Int) (hs : 1 ≤ s) : quaI (-c) s = -quaI c s := by
  unfold quaI absI
  rcases Int.lt_trichotomy c 0 with h | h | h
  · rw [if_neg (by omega), if_neg (by omega), if_pos h, if_pos h]; omega
  · subst h
    have : s / (2 * s) = 0 := Int.ediv_eq_zero_of_lt (by omega) (by omega)
    simp [this]
  · rw [if_pos (by omega), if_pos (by omega), if_neg (by omega), if_neg (by omega)]; simp
theorem div_mul (m s : Int) (hs : 1 ≤ s) : (2 * (m * s) + s) / (2 * s) = m := by
  have e : 2 * (m * s) + s = s + m * (2 * s) := by grind
  rw [e, Int.add_mul_ediv_right _ _ (by omega), Int.ediv_eq_zero_of_lt (by omega) (by omega)]
  omega
theorem mul_neg_iff (n s : Int) (hs : 1 ≤ s) : (n * s < 0 ↔ n < 0) ∧ (n * s = 0 ↔ n = 0) := by
  rcases Int.lt_trichotomy n 0 with h | h | h
  · have : n * s < 0 := Int.mul_neg_of_neg_of_pos h (by omega)
    omega
  · subst h; simp
  · have : 0 < n * s := Int.mul_pos h (by omega)
    omega
theorem qua_mul (n s : Int) (hs : 1 ≤ s) : quaI (n * s) s = n := by
  have hi := mul_neg_iff n s hs
  unfold quaI absI
  by_cases h : n * s < 0
  · rw [if_pos h, if_pos h, ← Int.neg_mul, div_mul (-n) s hs]; omega
  · rw [if_neg h, if_neg h, div_mul n s hs]
theorem quant_facts (c q : Int) (h1 : -4080 ≤ c) (h2 : c ≤ 4080) (h3 : 0 ≤ q) (h4 : q ≤ 15) :
    2 * absI (c - deqI (quantI c q) q) ≤ stepOf q ∧ quantI (-c) q = -quantI c q ∧ deqI (quantI c 0) 0 = c ∧ (-4080 ≤ quantI c q ∧ quantI c q ≤ 4080) ∧ (-4080 ≤ deqI (quantI c q) q ∧ deqI (quantI c q) q ≤ 4080) := by
  have hs := stepOf_bd q h3 h4
  have key := qua_err c (stepOf q) h1 h2 hs.1 hs.2
  have e1 : quantI c q = quaI c (stepOf q) := by unfold quantI; rw [if_neg (by omega)]
  have e2 : quantI (-c) q = quaI (-c) (stepOf q) := by unfold quantI; rw [if_neg (by omega)]
  have e3 : deqI (quantI c q) q = clampI (quaI c (stepOf q) * stepOf q) (-4080) 4080 := by unfold deqI; rw [e1, if_neg (by omega)]
  refine ⟨?_, ?_, ?_, by rw [e1]; exact key.2.2, ?_⟩
  · rw [e3]; unfold absI; omega
  · rw [e1, e2, qua_neg c _ hs.1]
  · have z : stepOf 0 = 1 := rfl
    have key0 := qua_err c 1 h1 h2 (by omega) (by omega)
    have f1 : quantI c 0 = quaI c 1 := by unfold quantI; rw [if_neg (by omega), z]
    unfold deqI
    rw [f1, if_neg (by omega), z]
    exact qua_one c h1 h2
  · rw [e3]; unfold clampI; omega
theorem deq_facts (n q : Int) (h1 : -4080 ≤ n) (h2 : n ≤ 4080) (h3 : 0 ≤ q) (h4 : q ≤ 15) :
    (absI n * stepOf q ≤ 4080 → quantI (deqI n q) q = n) ∧ ((n == 0) = (deqI n q == 0)) ∧ absI (deqI n q) ≤ 4080 ∧ (decide (n < 0) = decide (deqI n q < 0)) ∧ (-4080 ≤ deqI n q ∧ deqI n q ≤ 4080) ∧ (0 ≤ absI n * stepOf q ∧ absI n * stepOf q ≤ 4080 * 512) := by
  have hs := stepOf_bd q h3 h4
  have hi := mul_neg_iff n (stepOf q) hs.1
  have e : deqI n q = clampI (n * stepOf q) (-4080) 4080 := by unfold deqI; rw [if_neg (by omega)]
  have ha : absI n * stepOf q = absI (n * stepOf q) := by
    unfold absI
    by_cases h : n < 0
    · rw [if_pos h, if_pos (hi.1.2 h), Int.neg_mul]
    · rw [if_neg h, if_neg (fun h' => h (hi.1.1 h'))]
  have hm := mul_bd n (stepOf q) h1 h2 hs.1 hs.2
  refine ⟨fun hle => ?_, ?_, ?_, ?_, ?_, ?_⟩
  · rw [ha] at hle
    have hc : deqI n q = n * stepOf q := by rw [e]; unfold clampI; unfold absI at hle; omega
    have hr : -4080 ≤ n * stepOf q ∧ n * stepOf q ≤ 4080 := by unfold absI at hle; omega
    rw [hc]
    unfold quantI
    rw [if_neg (by omega), qua_mul n _ hs.1]
  · rw [Bool.eq_iff_iff]
    simp only [beq_iff_eq]
    rw [e]
    unfold clampI
    omega
  · rw [e]; unfold clampI absI; omega
  · rw [decide_eq_decide, e]
    unfold clampI
    omega
  · rw [e]; unfold clampI; omega
  · rw [ha]; unfold absI; omega
theorem quant_out (c q : Int) (h : c < -4080 ∨ 4080 < c ∨ q < 0 ∨ 15 < q) : quantI c q = 0 := by unfold quantI; rw [if_pos (by omega)]
theorem deq_out (c q : Int) (h : c < -4080 ∨ 4080 < c ∨ q < 0 ∨ 15 < q) : deqI c q = 0 := by unfold deqI; rw [if_pos (by omega)]
end Go.Proofs.YthehnbdkeecibaaDoor
