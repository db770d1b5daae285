/- Plain mathematics of the transform and of the quantizer: no program in sight. -/
import Derived.Test.YtammofbncdmccaaForward
import Derived.Test.YtammofbncdmccaaQuant
import Derived.Test.YtammofbncdmccaaCost
namespace Go.Proofs.Ytammofbncdmccaa
open Go.RowKit

/-- A statement on every index below 16, shown index by index. -/
theorem all16 {P : Nat → Prop} (h0 : P 0) (h1 : P 1) (h2 : P 2) (h3 : P 3) (h4 : P 4) (h5 : P 5) (h6 : P 6) (h7 : P 7) (h8 : P 8) (h9 : P 9) (h10 : P 10) (h11 : P 11) (h12 : P 12) (h13 : P 13) (h14 : P 14) (h15 : P 15) : ∀ k, k < 16 → P k
  | 0, _ => h0 | 1, _ => h1 | 2, _ => h2 | 3, _ => h3 | 4, _ => h4 | 5, _ => h5 | 6, _ => h6 | 7, _ => h7 | 8, _ => h8 | 9, _ => h9 | 10, _ => h10 | 11, _ => h11 | 12, _ => h12 | 13, _ => h13 | 14, _ => h14 | 15, _ => h15
  | n + 16, h => absurd h (by omega)
theorem app_add (b c : Nat → Int) : ∀ k, k < 16 → appI (fun i => b i + c i) k = appI b k + appI c k := by
  apply all16 <;> (simp [appI, psum, sg, sgL]; omega)
theorem app_neg (b : Nat → Int) : ∀ k, k < 16 → appI (fun i => -b i) k = -appI b k := by
  apply all16 <;> (simp [appI, psum, sg, sgL]; omega)
theorem app_congr {b c : Nat → Int} (h : ∀ k, k < 16 → b k = c k) (k : Nat) : appI b k = appI c k := by
  have : ∀ n, n ≤ 16 → psum b (k / 4) (k % 4) n = psum c (k / 4) (k % 4) n := by
    intro n
    induction n with
    | zero => intro _; rfl
    | succ n ih => intro hn; simp only [psum]; rw [ih (by omega), h n (by omega)]
  exact this 16 (by omega)
/-- The transform, written out. -/
theorem app_out (b : Nat → Int) : appI b 0 = b 0 + b 1 + b 2 + b 3 + b 4 + b 5 + b 6 + b 7 + b 8 + b 9 + b 10 + b 11 + b 12 + b 13 + b 14 + b 15 := by
  simp [appI, psum, sg, sgL]
theorem app_twice (b : Nat → Int) : ∀ k, k < 16 → appI (appI b) k = 16 * b k := by
  apply all16 <;> (simp [appI, psum, sg, sgL]; omega)
theorem sq4 (p q r s : Int) : (p + q + r + s) * (p + q + r + s) + (p + q - r - s) * (p + q - r - s) + (p - q - r + s) * (p - q - r + s) + (p - q + r - s) * (p - q + r - s) = 4 * (p * p + q * q + r * r + s * s) := by grind
/-- The transform in two passes: rows, then columns. -/
theorem app_two (b : Nat → Int) (r : Nat → Int) (hr : ∀ i, i < 4 → r (4 * i) = b (4 * i) + b (4 * i + 1) + b (4 * i + 2) + b (4 * i + 3) ∧ r (4 * i + 1) = b (4 * i) + b (4 * i + 1) - b (4 * i + 2) - b (4 * i + 3) ∧ r (4 * i + 2) = b (4 * i) - b (4 * i + 1) - b (4 * i + 2) + b (4 * i + 3) ∧ r (4 * i + 3) = b (4 * i) - b (4 * i + 1) + b (4 * i + 2) - b (4 * i + 3)) :
    ∀ i, i < 4 → appI b i = r i + r (i + 4) + r (i + 8) + r (i + 12) ∧ appI b (i + 4) = r i + r (i + 4) - r (i + 8) - r (i + 12) ∧ appI b (i + 8) = r i - r (i + 4) - r (i + 8) + r (i + 12) ∧ appI b (i + 12) = r i - r (i + 4) + r (i + 8) - r (i + 12) := by
  have h0 := hr 0 (by omega)
  have h1 := hr 1 (by omega)
  have h2 := hr 2 (by omega)
  have h3 := hr 3 (by omega)
  clear hr
  simp at h0 h1 h2 h3
  intro i hi
  match i, hi with
  | 0, _ => simp [appI, psum, sg, sgL]; omega
  | 1, _ => simp [appI, psum, sg, sgL]; omega
  | 2, _ => simp [appI, psum, sg, sgL]; omega
  | 3, _ => simp [appI, psum, sg, sgL]; omega
def rows4 (b : Nat → Int) (k : Nat) : Int :=
  let i := k / 4
  if k % 4 = 0 then b (4 * i) + b (4 * i + 1) + b (4 * i + 2) + b (4 * i + 3)
  else if k % 4 = 1 then b (4 * i) + b (4 * i + 1) - b (4 * i + 2) - b (4 * i + 3)
  else if k % 4 = 2 then b (4 * i) - b (4 * i + 1) - b (4 * i + 2) + b (4 * i + 3)
  else b (4 * i) - b (4 * i + 1) + b (4 * i + 2) - b (4 * i + 3)
theorem ener_app (b : Nat → Int) : enerTo (appI b) 16 = 16 * enerTo b 16 := by
  have hr : ∀ i, i < 4 → rows4 b (4 * i) = b (4 * i) + b (4 * i + 1) + b (4 * i + 2) + b (4 * i + 3) ∧ rows4 b (4 * i + 1) = b (4 * i) + b (4 * i + 1) - b (4 * i + 2) - b (4 * i + 3) ∧ rows4 b (4 * i + 2) = b (4 * i) - b (4 * i + 1) - b (4 * i + 2) + b (4 * i + 3) ∧ rows4 b (4 * i + 3) = b (4 * i) - b (4 * i + 1) + b (4 * i + 2) - b (4 * i + 3) := by
    intro i hi
    match i, hi with
    | 0, _ | 1, _ | 2, _ | 3, _ => simp [rows4]
  have ht := app_two b (rows4 b) hr
  have t0 := ht 0 (by omega)
  have t1 := ht 1 (by omega)
  have t2 := ht 2 (by omega)
  have t3 := ht 3 (by omega)
  have r0 := hr 0 (by omega)
  have r1 := hr 1 (by omega)
  have r2 := hr 2 (by omega)
  have r3 := hr 3 (by omega)
  clear ht hr
  simp only [Nat.zero_add, Nat.mul_zero, Nat.reduceAdd, Nat.reduceMul] at t0 t1 t2 t3 r0 r1 r2 r3
  generalize rows4 b = r at *
  have a0 := sq4 (r 0) (r 4) (r 8) (r 12)
  have a1 := sq4 (r 1) (r 5) (r 9) (r 13)
  have a2 := sq4 (r 2) (r 6) (r 10) (r 14)
  have a3 := sq4 (r 3) (r 7) (r 11) (r 15)
  have b0 := sq4 (b 0) (b 1) (b 2) (b 3)
  have b1 := sq4 (b 4) (b 5) (b 6) (b 7)
  have b2 := sq4 (b 8) (b 9) (b 10) (b 11)
  have b3 := sq4 (b 12) (b 13) (b 14) (b 15)
  rw [← t0.1, ← t0.2.1, ← t0.2.2.1, ← t0.2.2.2] at a0
  rw [← t1.1, ← t1.2.1, ← t1.2.2.1, ← t1.2.2.2] at a1
  rw [← t2.1, ← t2.2.1, ← t2.2.2.1, ← t2.2.2.2] at a2
  rw [← t3.1, ← t3.2.1, ← t3.2.2.1, ← t3.2.2.2] at a3
  rw [← r0.1, ← r0.2.1, ← r0.2.2.1, ← r0.2.2.2] at b0
  rw [← r1.1, ← r1.2.1, ← r1.2.2.1, ← r1.2.2.2] at b1
  rw [← r2.1, ← r2.2.1, ← r2.2.2.1, ← r2.2.2.2] at b2
  rw [← r3.1, ← r3.2.1, ← r3.2.2.1, ← r3.2.2.2] at b3
  simp only [enerTo]
  omega
theorem ener_congr {b c : Nat → Int} : ∀ n, (∀ k, k < n → b k = c k) → enerTo b n = enerTo c n
  | 0, _ => rfl
  | n + 1, h => by simp only [enerTo]; rw [ener_congr n (fun k hk => h k (by omega)), h n (by omega)]
theorem ener_neg (b : Nat → Int) : ∀ n, enerTo (fun i => -b i) n = enerTo b n
  | 0 => rfl
  | n + 1 => by simp only [enerTo, ener_neg b n, Int.neg_mul_neg]
theorem sq_nonneg (x : Int) : 0 ≤ x * x := by
  have e : x * x = ((x.natAbs * x.natAbs : Nat) : Int) := by rw [Int.natAbs_mul_self]
  omega
theorem ener_nonneg (b : Nat → Int) : ∀ n, 0 ≤ enerTo b n
  | 0 => by simp [enerTo]
  | n + 1 => by have := ener_nonneg b n; have := sq_nonneg (b n); simp only [enerTo]; omega
theorem ener_zero (b : Nat → Int) : ∀ n, enerTo b n = 0 → ∀ k, k < n → b k = 0
  | 0, _, k, hk => absurd hk (by omega)
  | n + 1, h, k, hk => by
    have a := ener_nonneg b n
    have c := sq_nonneg (b n)
    simp only [enerTo] at h
    by_cases e : k = n
    · subst e
      have : b k * b k = 0 := by omega
      rcases Int.mul_eq_zero.1 this with h | h <;> exact h
    · exact ener_zero b n (by omega) k (by omega)
/-- A block and its transpose. -/
def tr (k : Nat) : Nat := k % 4 * 4 + k / 4
theorem tr_lt (k : Nat) (h : k < 16) : tr k < 16 := by unfold tr; omega
theorem tr_tr (k : Nat) (h : k < 16) : tr (tr k) = k := by unfold tr; omega
theorem app_tr (b : Nat → Int) : ∀ k, k < 16 → appI (fun i => b (tr i)) k = appI b (tr k) := by
  apply all16 <;> (simp [appI, psum, sg, sgL, tr]; omega)
theorem rnd16_mul (n : Int) : rnd16 (16 * n) = n := by unfold rnd16; omega
/-- The errors: what is decoded differs from the residuals by rounded transforms of the coefficients' errors. -/
theorem rnd16_err (x f : Int) : (rnd16 (16 * x + f) - x) * (rnd16 (16 * x + f) - x) * 128 ≤ f * f + 64 := by
  have h : rnd16 (16 * x + f) - x = (f + 8) / 16 := by unfold rnd16; omega
  rw [h]
  obtain ⟨q, r, hq, h0, h1⟩ : ∃ q r : Int, f = 16 * q + r ∧ -8 ≤ r ∧ r < 8 := ⟨(f + 8) / 16, f - 16 * ((f + 8) / 16), by omega, by omega, by omega⟩
  have e : (f + 8) / 16 = q := by omega
  rw [e]
  subst hq
  have c : 0 ≤ (8 * q + r) * (8 * q + r) := sq_nonneg _
  have d : (16 * q + r) * (16 * q + r) + 64 - q * q * 128 = 2 * ((8 * q + r) * (8 * q + r)) + (64 - r * r) := by grind
  have r8 : r * r ≤ 64 := by
    have hn : r.natAbs ≤ 8 := by omega
    have e : r * r = ((r.natAbs * r.natAbs : Nat) : Int) := by rw [Int.natAbs_mul_self]
    have := Nat.mul_le_mul hn hn
    omega
  omega
theorem sum_err (x y f : Nat → Int) (h : ∀ k, k < 16 → x k = rnd16 (16 * y k + f k)) : ∀ n, n ≤ 16 → enerTo (fun i => x i - y i) n * 128 ≤ enerTo f n + 64 * n
  | 0, _ => by simp [enerTo]
  | n + 1, hn => by
    have a := sum_err x y f h n (by omega)
    have b := rnd16_err (y n) (f n)
    rw [← h n (by omega)] at b
    simp only [enerTo]
    omega
/-- Quantizing and dequantizing a coefficient: the error is at most half a step. -/
theorem qua_err (c s : Int) (h1 : -4080 ≤ c) (h2 : c ≤ 4080) (h3 : 1 ≤ s) (h4 : s ≤ 512) :
    2 * (clampI (quaI c s * s) (-4080) 4080 - c) ≤ s ∧ -s ≤ 2 * (clampI (quaI c s * s) (-4080) 4080 - c) ∧ -4080 ≤ quaI c s ∧ quaI c s ≤ 4080 := by
  have key : ∀ a : Int, 0 ≤ a → a ≤ 4080 → 2 * ((2 * a + s) / (2 * s) * s - a) ≤ s ∧ -s ≤ 2 * ((2 * a + s) / (2 * s) * s - a) ∧ 0 ≤ (2 * a + s) / (2 * s) ∧ (2 * a + s) / (2 * s) ≤ a := by
    intro a ha ha2
    have e := Int.mul_ediv_add_emod (2 * a + s) (2 * s)
    have l := Int.emod_nonneg (2 * a + s) (show 2 * s ≠ 0 by omega)
    have u := Int.emod_lt_of_pos (2 * a + s) (show 0 < 2 * s by omega)
    have n : 0 ≤ (2 * a + s) / (2 * s) := Int.ediv_nonneg (by omega) (by omega)
    generalize (2 * a + s) / (2 * s) = q at *
    generalize (2 * a + s) % (2 * s) = r at *
    have m : 2 * s * q = 2 * (q * s) := by grind
    refine ⟨by omega, by omega, n, ?_⟩
    by_cases hq : q ≤ a
    · exact hq
    · exfalso
      have g : (a + 1) * s ≤ q * s := Int.mul_le_mul_of_nonneg_right (by omega) (by omega)
      have g2 : (a + 1) * s = a * s + s := by grind
      have g3 : a * 1 ≤ a * s := Int.mul_le_mul_of_nonneg_left h3 ha
      omega
  unfold quaI
  by_cases hc : c < 0
  · rw [if_pos hc]
    have e : absI c = -c := by unfold absI; rw [if_pos hc]
    rw [e]
    have k := key (-c) (by omega) (by omega)
    generalize (2 * -c + s) / (2 * s) = q at *
    rw [Int.neg_mul]
    generalize q * s = m at *
    unfold clampI
    omega
  · rw [if_neg hc]
    have e : absI c = c := by unfold absI; rw [if_neg hc]
    rw [e]
    have k := key c (by omega) (by omega)
    generalize (2 * c + s) / (2 * s) = q at *
    generalize q * s = m at *
    unfold clampI
    omega
theorem qua_one (c : Int) (h1 : -4080 ≤ c) (h2 : c ≤ 4080) : clampI (quaI c 1 * 1) (-4080) 4080 = c := by
  have := qua_err c 1 h1 h2 (by omega) (by omega)
  omega
theorem qua_neg (c s : Int) (hs : 1 ≤ s) : quaI (-c) s = -quaI c s := by
  unfold quaI absI
  rcases Int.lt_trichotomy c 0 with h | h | h
  · rw [if_neg (by omega), if_neg (by omega), if_pos h, if_pos h]; omega
  · subst h
    have : s / (2 * s) = 0 := Int.ediv_eq_zero_of_lt (by omega) (by omega)
    simp [this]
  · rw [if_pos (by omega), if_pos (by omega), if_neg (by omega), if_neg (by omega)]; simp
theorem ener_half (e : Nat → Int) (s : Int) (h : ∀ k, k < 16 → 2 * e k ≤ s ∧ -s ≤ 2 * e k) : ∀ n, n ≤ 16 → 4 * enerTo e n ≤ n * (s * s)
  | 0, _ => by simp [enerTo]
  | n + 1, hn => by
    have a := ener_half e s h n (by omega)
    have b := h n (by omega)
    have c : 4 * (e n * e n) ≤ s * s := by
      have h1 : 0 ≤ (s - 2 * e n) * (s + 2 * e n) := Int.mul_nonneg (by omega) (by omega)
      have h2 : (s - 2 * e n) * (s + 2 * e n) = s * s - 4 * (e n * e n) := by grind
      omega
    simp only [enerTo]
    have d : ((n + 1 : Nat) : Int) * (s * s) = n * (s * s) + s * s := by grind
    omega
/-- The whole error of a block that is coded and decoded. -/
theorem block_err (b d x : Nat → Int) (s : Int) (h : ∀ k, k < 16 → 2 * (d k - appI b k) ≤ s ∧ -s ≤ 2 * (d k - appI b k)) (hx : ∀ k, k < 16 → x k = rnd16 (appI d k)) :
    enerTo (fun i => x i - b i) 16 ≤ 4 * s * s + 16 := by
  have hd : ∀ k, k < 16 → appI d k = 16 * b k + appI (fun i => d i - appI b i) k := by
    intro k hk
    rw [← app_twice b k hk, ← app_add (appI b) (fun i => d i - appI b i) k hk]
    exact app_congr (fun j _ => by omega) k
  have h1 := sum_err x b (appI (fun i => d i - appI b i)) (fun k hk => by rw [hx k hk, hd k hk]) 16 (by omega)
  rw [ener_app] at h1
  have h2 := ener_half (fun i => d i - appI b i) s h 16 (by omega)
  have h3 := sq_nonneg s
  have h4 : 4 * s * s = 4 * (s * s) := by grind
  omega
theorem code0 (b : Nat → Int) (d : Nat → Int) (h : ∀ k, k < 16 → d k = appI b k) : ∀ k, k < 16 → rnd16 (appI d k) = b k := fun k hk => by
  rw [app_congr h k, app_twice b k hk, rnd16_mul]
/-- Only the first coefficient. -/
theorem app_first (b : Nat → Int) (h : ∀ k, 0 < k → k < 16 → b k = 0) : ∀ k, k < 16 → appI b k = b 0 := by
  have e : ∀ k, k < 16 → b k = (fun i => if i = 0 then b 0 else 0) k := fun k hk => by
    by_cases h0 : k = 0
    · simp [h0]
    · simp [h0, h k (by omega) hk]
  intro k hk
  rw [app_congr e k]
  revert k
  apply all16 <;> simp [appI, psum, sg, sgL]
theorem app_const (d : Int) : ∀ k, k < 16 → appI (fun _ => d) k = if k = 0 then 16 * d else 0 := by
  apply all16 <;> (simp [appI, psum, sg, sgL]; try omega)
theorem asum_const (d : Int) : asumTo (appI (fun _ => d)) 16 = 16 * absI d := by
  have h := app_const d
  have e : ∀ n, n ≤ 16 → asumTo (appI (fun _ => d)) n = if n = 0 then 0 else 16 * absI d := by
    intro n
    induction n with
    | zero => intro _; rfl
    | succ n ih =>
      intro hn
      simp only [asumTo]
      rw [ih (by omega), h n (by omega)]
      by_cases h0 : n = 0
      · subst h0; simp [absI]; omega
      · simp [h0, absI]
  exact e 16 (by omega)
theorem asum_neg (c : Nat → Int) : ∀ n, asumTo (fun i => -c i) n = asumTo c n
  | 0 => rfl
  | n + 1 => by simp only [asumTo, asum_neg c n]; congr 1; unfold absI; omega
end Go.Proofs.Ytammofbncdmccaa
