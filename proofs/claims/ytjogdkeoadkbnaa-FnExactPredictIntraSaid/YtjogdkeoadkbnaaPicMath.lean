/- Plain mathematics of sums and of transposed pictures: no program in sight. -/
import Derived.Test.YtjogdkeoadkbnaaScalar
namespace Go.Proofs.Ytjogdkeoadkbnaa
open Go.RowKit

theorem sq_nonneg' (x : Int) : 0 ≤ x * x := by
  have e : x * x = ((x.natAbs * x.natAbs : Nat) : Int) := by rw [Int.natAbs_mul_self]
  omega
/-- The sum of the first n numbers. -/
def sumTo (f : Nat → Int) : Nat → Int
  | 0 => 0
  | n + 1 => sumTo f n + f n
theorem sum_congr {f g : Nat → Int} : ∀ n, (∀ k, k < n → f k = g k) → sumTo f n = sumTo g n
  | 0, _ => rfl
  | n + 1, h => by simp only [sumTo]; rw [sum_congr n (fun k hk => h k (by omega)), h n (by omega)]
theorem sum_add (f : Nat → Int) (m : Nat) : ∀ n, sumTo f (m + n) = sumTo f m + sumTo (fun i => f (m + i)) n
  | 0 => by simp [sumTo]
  | n + 1 => by rw [← Nat.add_assoc]; simp only [sumTo]; rw [sum_add f m n]; omega
theorem sum_plus (f g : Nat → Int) : ∀ n, sumTo (fun i => f i + g i) n = sumTo f n + sumTo g n
  | 0 => rfl
  | n + 1 => by simp only [sumTo]; rw [sum_plus f g n]; omega
theorem sum_zero : ∀ n, sumTo (fun _ => 0) n = 0
  | 0 => rfl
  | n + 1 => by simp only [sumTo, sum_zero n]; rfl
/-- A sum over rows of m numbers. -/
theorem sum_rows (f : Nat → Int) (m : Nat) : ∀ n, sumTo f (n * m) = sumTo (fun y => sumTo (fun x => f (y * m + x)) m) n
  | 0 => by simp [sumTo]
  | n + 1 => by
    rw [Nat.add_mul, Nat.one_mul, sum_add, sum_rows f m n]
    rfl
theorem sum_swap (f : Nat → Nat → Int) (m : Nat) : ∀ n, sumTo (fun y => sumTo (fun x => f y x) m) n = sumTo (fun x => sumTo (fun y => f y x) n) m
  | 0 => by simp only [sumTo]; exact (sum_zero m).symm
  | n + 1 => by
    simp only [sumTo]
    rw [sum_swap f m n, ← sum_plus]
/-- The place of a transposed picture's sample: the picture has w columns and h rows; its transpose has h columns. -/
def trAt (w h k : Nat) : Nat := k % h * w + k / h
theorem tr_at (w h x y : Nat) (hy : y < h) : trAt w h (x * h + y) = y * w + x := by
  unfold trAt
  have e1 : (x * h + y) % h = y := by rw [Nat.add_comm, Nat.add_mul_mod_self_right, Nat.mod_eq_of_lt hy]
  have e2 : (x * h + y) / h = x := by rw [Nat.add_comm, Nat.add_mul_div_right _ _ (by omega), Nat.div_eq_of_lt hy, Nat.zero_add]
  rw [e1, e2]
theorem idx_lt {w h x y : Nat} (hx : x < w) (hy : y < h) : y * w + x < w * h := by
  have : (y + 1) * w ≤ h * w := Nat.mul_le_mul_right w hy
  rw [Nat.add_mul, Nat.one_mul] at this
  rw [Nat.mul_comm w h]
  omega
theorem tr_lt' (w h k : Nat) (hk : k < w * h) : trAt w h k < w * h := by
  have hh : 0 < h := by
    rcases Nat.eq_zero_or_pos h with rfl | h0
    · simp at hk
    · exact h0
  unfold trAt
  exact idx_lt ((Nat.div_lt_iff_lt_mul hh).2 hk) (Nat.mod_lt _ hh)
theorem tr_tr' (w h k : Nat) (hk : k < w * h) : trAt h w (trAt w h k) = k := by
  have hh : 0 < h := by
    rcases Nat.eq_zero_or_pos h with rfl | h0
    · simp at hk
    · exact h0
  have h1 : k / h < w := (Nat.div_lt_iff_lt_mul hh).2 hk
  have h2 : trAt w h k = (k % h) * w + k / h := rfl
  rw [h2, tr_at h w (k % h) (k / h) h1, Nat.mul_comm, Nat.div_add_mod]
theorem sum_tr (f : Nat → Int) (w h : Nat) : sumTo (fun k => f (trAt w h k)) (w * h) = sumTo f (w * h) := by
  rw [sum_rows _ h w]
  rw [sum_congr w (g := fun x => sumTo (fun y => f (y * w + x)) h) (fun x _ => sum_congr h (fun y hy => by rw [tr_at w h x y hy]))]
  rw [← sum_swap (fun y x => f (y * w + x)) w h, ← sum_rows, Nat.mul_comm]
/-- Squares and absolute values. -/
theorem sum_bd {f : Nat → Int} {lo hi : Int} : ∀ n, (∀ k, k < n → lo ≤ f k ∧ f k ≤ hi) → lo * n ≤ sumTo f n ∧ sumTo f n ≤ hi * n
  | 0, _ => by simp [sumTo]
  | n + 1, h => by
    have a := sum_bd n (fun k hk => h k (by omega))
    have b := h n (by omega)
    simp only [sumTo]
    have e1 : lo * ((n + 1 : Nat) : Int) = lo * n + lo := by grind
    have e2 : hi * ((n + 1 : Nat) : Int) = hi * n + hi := by grind
    omega
theorem sum_le {f g : Nat → Int} : ∀ n, (∀ k, k < n → f k ≤ g k) → sumTo f n ≤ sumTo g n
  | 0, _ => by simp [sumTo]
  | n + 1, h => by
    have a := sum_le n (fun k hk => h k (by omega))
    have b := h n (by omega)
    simp only [sumTo]
    omega
theorem sum_mul (f : Nat → Int) (c : Int) : ∀ n, sumTo (fun k => c * f k) n = c * sumTo f n
  | 0 => by simp [sumTo]
  | n + 1 => by simp only [sumTo]; rw [sum_mul f c n]; grind
theorem sum_nonneg {f : Nat → Int} (n : Nat) (h : ∀ k, k < n → 0 ≤ f k) : 0 ≤ sumTo f n := by
  have := sum_le (f := fun _ => 0) (g := f) n h
  rw [sum_zero] at this
  exact this
theorem sum_eq_zero {f : Nat → Int} : ∀ n, (∀ k, k < n → 0 ≤ f k) → sumTo f n = 0 → ∀ k, k < n → f k = 0
  | 0, _, _, k, hk => absurd hk (by omega)
  | n + 1, h, e, k, hk => by
    have a := sum_nonneg n (fun k hk => h k (by omega))
    have b := h n (by omega)
    simp only [sumTo] at e
    by_cases hkn : k = n
    · subst hkn; omega
    · exact sum_eq_zero n (fun k hk => h k (by omega)) (by omega) k (by omega)
theorem cauchy (f : Nat → Int) : ∀ n : Nat, sumTo f n * sumTo f n ≤ sumTo (fun k => f k * f k) n * n
  | 0 => by simp [sumTo]
  | n + 1 => by
    have ih := cauchy f n
    have hQ := sum_nonneg (f := fun k => f k * f k) n (fun k _ => sq_nonneg' (f k))
    simp only [sumTo]
    generalize sumTo f n = S at *
    generalize sumTo (fun k => f k * f k) n = Q at *
    generalize f n = x at *
    have e1 : (S + x) * (S + x) = S * S + 2 * (S * x) + x * x := by grind
    have e2 : (Q + x * x) * ((n + 1 : Nat) : Int) = Q * n + Q + n * (x * x) + x * x := by grind
    rw [e1, e2]
    suffices 2 * (S * x) ≤ Q + n * (x * x) by omega
    have hx := sq_nonneg' x
    rcases Nat.eq_zero_or_pos n with rfl | hn
    · have hS : S * S = 0 := by have := sq_nonneg' S; simp at ih; omega
      have hS0 : S = 0 := by rcases Int.mul_eq_zero.1 hS with h | h <;> exact h
      subst hS0
      simp
      exact hQ
    · have h1 := sq_nonneg' (S - n * x)
      have e3 : (S - n * x) * (S - n * x) = S * S - n * (2 * (S * x)) + n * (n * (x * x)) := by grind
      have e4 : (n : Int) * (Q + n * (x * x)) = Q * n + n * (n * (x * x)) := by grind
      have h2 : (n : Int) * (2 * (S * x)) ≤ n * (Q + n * (x * x)) := by omega
      exact Int.le_of_mul_le_mul_left h2 (by omega)
end Go.Proofs.Ytjogdkeoadkbnaa
