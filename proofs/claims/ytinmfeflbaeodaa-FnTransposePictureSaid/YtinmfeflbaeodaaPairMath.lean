/- What the differences of two pictures are, in plain Lean, and the comparison of two lists of numbers. -/
import Derived.Test.YtinmfeflbaeodaaPicLaws6
namespace Go.Proofs.Ytinmfeflbaeodaa
open Go.RowKit

theorem sameB_symm (aw ah : Int) (an : Nat) (a : Nat → Int) (bw bh : Int) (bn : Nat) (b : Nat → Int) : sameB aw ah an a bw bh bn b = sameB bw bh bn b aw ah an a := by
  unfold sameB
  rw [Bool.and_comm (pvB aw ah an a) (pvB bw bh bn b), decide_eq_decide.2 (show aw = bw ↔ bw = aw from eq_comm), decide_eq_decide.2 (show ah = bh ↔ bh = ah from eq_comm)]
theorem absI_neg (x : Int) : absI (-x) = absI x := by unfold absI; split <;> split <;> omega
theorem absI_sub (x y : Int) : absI (x - y) = absI (y - x) := by unfold absI; split <;> split <;> omega
theorem absI_nonneg (x : Int) : 0 ≤ absI x := by unfold absI; split <;> omega
theorem absI_sq (x : Int) : absI x * absI x = x * x := by
  unfold absI
  split
  · rw [Int.neg_mul_neg]
  · rfl
theorem absI_zero {x : Int} : absI x = 0 ↔ x = 0 := by unfold absI; split <;> omega
theorem absI_le_sq (x : Int) : absI x ≤ x * x := by
  have h : x * x = ((x.natAbs * x.natAbs : Nat) : Int) := by rw [Int.natAbs_mul_self]
  have h2 : absI x = (x.natAbs : Int) := by unfold absI; split <;> omega
  rw [h, h2]
  have : x.natAbs ≤ x.natAbs * x.natAbs := by
    by_cases h0 : x.natAbs = 0
    · simp [h0]
    · exact Nat.le_mul_of_pos_left _ (by omega)
  omega
theorem sq_le_absI {x : Int} (h1 : -255 ≤ x) (h2 : x ≤ 255) : x * x ≤ 255 * absI x := by
  have h : x * x = ((x.natAbs * x.natAbs : Nat) : Int) := by rw [Int.natAbs_mul_self]
  have h3 : absI x = (x.natAbs : Int) := by unfold absI; split <;> omega
  rw [h, h3]
  have : x.natAbs * x.natAbs ≤ 255 * x.natAbs := Nat.mul_le_mul_right _ (by omega)
  omega
theorem absD_symm (aw ah : Int) (an : Nat) (a : Nat → Int) (bw bh : Int) (bn : Nat) (b : Nat → Int) : absD bw bh bn b aw ah an a = absD aw ah an a bw bh bn b := by
  unfold absD
  rw [sameB_symm bw bh bn b aw ah an a]
  cases h : sameB aw ah an a bw bh bn b
  · rfl
  · obtain ⟨_, _, _, _, rfl, _⟩ := sameB_out h
    simp only [if_true]
    exact sum_congr _ (fun k _ => absI_sub _ _)
theorem sameB_self {aw ah : Int} {an : Nat} {a : Nat → Int} (h : pvB aw ah an a = true) : sameB aw ah an a aw ah an a = true := by
  unfold sameB
  rw [h, decide_eq_true rfl, decide_eq_true rfl]; rfl
theorem absD_self {aw ah : Int} {an : Nat} {a : Nat → Int} (h : pvB aw ah an a = true) : absD aw ah an a aw ah an a = 0 := by
  unfold absD
  rw [if_pos (sameB_self h), sum_congr (g := fun _ => 0) an (fun k _ => by rw [Int.sub_self]; rfl), sum_zero]
theorem absD_neg {aw ah : Int} {an : Nat} {a : Nat → Int} {bw bh : Int} {bn : Nat} {b : Nat → Int} (h : sameB aw ah an a bw bh bn b = false) : absD aw ah an a bw bh bn b = -1 := by unfold absD; rw [h]; rfl
theorem sqD_neg {aw ah : Int} {an : Nat} {a : Nat → Int} {bw bh : Int} {bn : Nat} {b : Nat → Int} (h : sameB aw ah an a bw bh bn b = false) : sqD aw ah an a bw bh bn b = -1 := by unfold sqD; rw [h]; rfl
/-- What holds of the two differences of pictures that are the same in size. -/
theorem diff_law {aw ah : Int} {an : Nat} {a : Nat → Int} {bw bh : Int} {bn : Nat} {b : Nat → Int} (h : sameB aw ah an a bw bh bn b = true) :
    (0 ≤ absD aw ah an a bw bh bn b ∧ absD aw ah an a bw bh bn b ≤ 255 * an) ∧ (absD aw ah an a bw bh bn b ≤ sqD aw ah an a bw bh bn b ∧ sqD aw ah an a bw bh bn b ≤ 255 * absD aw ah an a bw bh bn b) ∧
    absD aw ah an a bw bh bn b * absD aw ah an a bw bh bn b ≤ sqD aw ah an a bw bh bn b * an ∧ (absD aw ah an a bw bh bn b = 0 ↔ ∀ i, i < an → a i = b i) := by
  obtain ⟨_, _, _, _, rfl, hn, ha, hb⟩ := sameB_out h
  unfold absD sqD
  rw [if_pos h, if_pos h]
  refine ⟨abs_bd ha hb an (Nat.le_refl _), ⟨sum_le an (fun k hk => absI_le_sq _), ?_⟩, ?_, ?_⟩
  · rw [← sum_mul]
    exact sum_le an (fun k hk => sq_le_absI (by have := ha k hk; have := hb k hk; omega) (by have := ha k hk; have := hb k hk; omega))
  · have := cauchy (fun i => absI (a i - b i)) an
    rw [sum_congr (f := fun k => absI (a k - b k) * absI (a k - b k)) (g := fun k => (a k - b k) * (a k - b k)) an (fun k _ => absI_sq _)] at this
    exact this
  · constructor
    · intro h0 i hi
      have := sum_eq_zero an (fun k _ => absI_nonneg (a k - b k)) h0 i hi
      have := absI_zero.1 this
      omega
    · intro h0
      rw [sum_congr (g := fun _ => 0) an (fun k hk => by rw [h0 k hk, Int.sub_self]; rfl), sum_zero]
theorem same_tr {aw ah : Int} {an : Nat} {a : Nat → Int} {bw bh : Int} {bn : Nat} {b : Nat → Int} (h : sameB aw ah an a bw bh bn b = true) : sameB ah aw an (trF aw ah a) bh bw bn (trF bw bh b) = true := by
  obtain ⟨h1, h2, rfl, rfl, rfl, _⟩ := sameB_out h
  unfold sameB
  rw [(tr_ok h1).1, (tr_ok h2).1, decide_eq_true rfl, decide_eq_true rfl]; rfl
theorem sum_trF {aw ah : Int} {an : Nat} {a b : Nat → Int} (h : pvB aw ah an a = true) (F : Int → Int → Int) : sumTo (fun i => F (trF aw ah a i) (trF aw ah b i)) an = sumTo (fun i => F (a i) (b i)) an := by
  obtain ⟨h1, h2, h3, h4⟩ := pvB_out h
  have s1 := sideB_out h1
  have s2 := sideB_out h2
  obtain ⟨W, rfl⟩ := Int.eq_ofNat_of_zero_le (a := aw) (by omega)
  obtain ⟨H, rfl⟩ := Int.eq_ofNat_of_zero_le (a := ah) (by omega)
  have hk : an = W * H := by
    have : ((W : Int) * (H : Int)) = ((W * H : Nat) : Int) := by simp
    omega
  subst hk
  unfold trF
  simp only [Int.toNat_natCast]
  exact sum_tr (fun i => F (a i) (b i)) W H
theorem trS_no {pw ph : Int} {n : Nat} {b : Nat → Int} (h : pvB pw ph n b = false) (x : Int) : trS pw ph n b x = 0 := by unfold trS; rw [h]; rfl
theorem trN_no {pw ph : Int} {n : Nat} {b : Nat → Int} (h : pvB pw ph n b = false) : trN pw ph n b = 0 := by unfold trN; rw [h]; rfl
theorem trS_ok {pw ph : Int} {n : Nat} {b : Nat → Int} (h : pvB pw ph n b = true) (x : Int) : trS pw ph n b x = x := by unfold trS; rw [h]; rfl
theorem trN_ok {pw ph : Int} {n : Nat} {b : Nat → Int} (h : pvB pw ph n b = true) : trN pw ph n b = n := by unfold trN; rw [h]; rfl
theorem trN_le (pw ph : Int) (n : Nat) (b : Nat → Int) : trN pw ph n b ≤ n := by unfold trN; split <;> omega
theorem pvB_zero (n : Nat) (b : Nat → Int) : pvB 0 0 n b = false := pvB_w (by omega)
theorem same_trG (aw ah : Int) (an : Nat) (a : Nat → Int) (bw bh : Int) (bn : Nat) (b : Nat → Int) :
    sameB (trS aw ah an a ah) (trS aw ah an a aw) (trN aw ah an a) (trF aw ah a) (trS bw bh bn b bh) (trS bw bh bn b bw) (trN bw bh bn b) (trF bw bh b) = sameB aw ah an a bw bh bn b := by
  cases ha : pvB aw ah an a
  · rw [trS_no ha, trS_no ha, trN_no ha]
    unfold sameB
    rw [ha, pvB_zero]; rfl
  · cases hb : pvB bw bh bn b
    · rw [trS_no hb, trS_no hb, trN_no hb]
      unfold sameB
      rw [hb, pvB_zero, Bool.and_false, Bool.and_false]; rfl
    · rw [trS_ok ha, trS_ok ha, trN_ok ha, trS_ok hb, trS_ok hb, trN_ok hb]
      unfold sameB
      rw [ha, hb, (tr_ok ha).1, (tr_ok hb).1]
      generalize decide (aw = bw) = x
      generalize decide (ah = bh) = y
      cases x <;> cases y <;> rfl
theorem absD_tr (aw ah : Int) (an : Nat) (a : Nat → Int) (bw bh : Int) (bn : Nat) (b : Nat → Int) :
    absD (trS aw ah an a ah) (trS aw ah an a aw) (trN aw ah an a) (trF aw ah a) (trS bw bh bn b bh) (trS bw bh bn b bw) (trN bw bh bn b) (trF bw bh b) = absD aw ah an a bw bh bn b := by
  unfold absD
  rw [same_trG]
  cases h : sameB aw ah an a bw bh bn b
  · rfl
  · obtain ⟨h1, h2, rfl, rfl, rfl, _⟩ := sameB_out h
    simp only [if_true]
    rw [trN_ok h1]
    exact sum_trF h1 (fun x y => absI (x - y))
theorem sqD_tr (aw ah : Int) (an : Nat) (a : Nat → Int) (bw bh : Int) (bn : Nat) (b : Nat → Int) :
    sqD (trS aw ah an a ah) (trS aw ah an a aw) (trN aw ah an a) (trF aw ah a) (trS bw bh bn b bh) (trS bw bh bn b bw) (trN bw bh bn b) (trF bw bh b) = sqD aw ah an a bw bh bn b := by
  unfold sqD
  rw [same_trG]
  cases h : sameB aw ah an a bw bh bn b
  · rfl
  · obtain ⟨h1, h2, rfl, rfl, rfl, _⟩ := sameB_out h
    simp only [if_true]
    rw [trN_ok h1]
    exact sum_trF h1 (fun x y => (x - y) * (x - y))
theorem sameInts_dec (u v : Value) (n : Nat) (b c : Nat → Int) (r : Bool) (w : World) (hu : Sr .i64 w.heap.size w u n b) (hv : Sr .i64 w.heap.size w v n c) (hr : r = true ↔ ∀ i, i < n → b i = c i) (hn : n ≤ 1000000000000) :
    Calls Try.prog 31 #[u, v] w fun e w' => e = .returned (.bool r) ∧ Below w.heap.size w w' := by
  obtain ⟨a, cap, rfl, _, hc⟩ := hu
  obtain ⟨a', cap', rfl, _, hc'⟩ := hv
  have HC := Lib.hid hc; have HC' := Lib.hid hc'; have HR := Lib.hid hr; clear hc hc' hr
  go_enter Try.func31, Try.ntmps31
  go_wp2
  go_loopw [5] (fun i wr => ∃ k m : Nat, k ≤ n ∧ i = .int .i64 k ∧ wr = w.drewN m ∧ ∀ j, j < k → b j = c j) (fun i _ => n - (intOf i).toNat)
  case atStart => exact ⟨0, 0, by omega, rfl, rfl, fun j hj => absurd hj (by omega)⟩
  case round =>
    obtain ⟨k, m, hk, rfl, rfl, hall⟩ := hrel
    have HA := Lib.hid hall; clear hall
    by_cases hlt : k < n
    · obtain ⟨g, off, rfl, hg, hcell⟩ := HC.out (by omega)
      obtain ⟨g', off', rfl, hg', hcell'⟩ := HC'.out (by omega)
      have c1 := hcell k hlt
      have c2 := hcell' k hlt
      have hk1 : (k : Int) < n := by omega
      have hk0 : (0 : Int) ≤ k := by omega
      have HK := Lib.hid (show b k = c k ∨ b k ≠ c k by omega)
      obtain ⟨x, hx⟩ : ∃ x, b k = x := ⟨_, rfl⟩
      obtain ⟨y, hy⟩ : ∃ y, c k = y := ⟨_, rfl⟩
      rw [hx] at c1; rw [hy] at c2
      have HX := Lib.hid hx; have HY := Lib.hid hy; clear hx hy
      clear hcell hcell' HC HC'
      by_cases hxy : x = y
      · subst hxy
        go_wp2_with fail
        go_quiet (fail)
        go_wp2_with fail
        go_roundw
        case rel => exact ⟨k + 1, _, by omega, by go_num, rfl, fun j hj => by by_cases e : j = k; (subst e; rw [HX.out, HY.out]); exact HA.out j (by omega)⟩
        case measure => simp [intOf]; omega
      · have hr0 : r = false := by
          cases r with
          | false => rfl
          | true => exact absurd (HR.out.1 rfl k hlt) (by rw [HX.out, HY.out]; exact hxy)
        subst hr0
        go_wp2_with fail
        go_quiet (fail)
        go_wp2_with fail
        go_ret
        exact ⟨rfl, below_drewN (below_drewN (Below.refl _ _) _) _⟩
    · have hr1 : r = true := HR.out.2 (fun i hi => HA.out i (by omega))
      subst hr1
      go_wp2_with fail
      go_ret
      exact ⟨rfl, below_drewN (Below.refl _ _) m⟩
end Go.Proofs.Ytinmfeflbaeodaa
