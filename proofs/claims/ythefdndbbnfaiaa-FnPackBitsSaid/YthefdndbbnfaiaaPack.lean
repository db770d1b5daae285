/- Contracts of PackBits, of the program and of the reference. -/
import Derived.Test.YthefdndbbnfaiaaBits
namespace Go.Proofs.Ythefdndbbnfaiaa
open Go.RowKit

/-- The first t bits of byte j, as a number. -/
def valT (b : Nat → Int) (j : Nat) : Nat → Int
  | 0 => 0
  | t + 1 => 2 * valT b j t + b (8 * j + t)
/-- Byte j when the first k bits have been packed. -/
def pkB (b : Nat → Int) (k j : Nat) : Int := if 8 * j + 8 ≤ k then valT b j 8 else if k ≤ 8 * j then 0 else valT b j (k - 8 * j) * 2 ^ (8 * j + 8 - k)
theorem valT_bd {b : Nat → Int} {j : Nat} : ∀ t, (∀ i, i < t → 0 ≤ b (8 * j + i) ∧ b (8 * j + i) ≤ 1) → 0 ≤ valT b j t ∧ valT b j t < 2 ^ t
  | 0, _ => by simp [valT]
  | t + 1, h => by
    have a := valT_bd t (fun i hi => h i (by omega))
    have c := h t (by omega)
    simp only [valT, Int.pow_succ]
    omega
theorem pkB_zero (b : Nat → Int) (k j : Nat) (h : k ≤ 8 * j) : pkB b k j = 0 := by unfold pkB; rw [if_neg (by omega), if_pos h]
theorem pkB_at (b : Nat → Int) (k : Nat) : pkB b k (k / 8) = valT b (k / 8) (k % 8) * 2 ^ (8 - k % 8) := by
  unfold pkB
  rw [if_neg (by omega)]
  by_cases h : k ≤ 8 * (k / 8)
  · rw [if_pos h]
    have : k % 8 = 0 := by omega
    rw [this]
    simp [valT]
  · rw [if_neg h]
    have e1 : k - 8 * (k / 8) = k % 8 := by omega
    have e2 : 8 * (k / 8) + 8 - k = 8 - k % 8 := by omega
    rw [e1, e2]
theorem pkB_step (b : Nat → Int) (k j : Nat) : pkB b (k + 1) j = if j = k / 8 then pkB b k j + b k * 2 ^ (7 - k % 8) else pkB b k j := by
  by_cases h : j = k / 8
  · subst h
    rw [if_pos rfl, pkB_at]
    have hk : 8 * (k / 8) + k % 8 = k := by omega
    have e : valT b (k / 8) (k % 8 + 1) = 2 * valT b (k / 8) (k % 8) + b k := by simp only [valT]; rw [hk]
    have g : pkB b (k + 1) (k / 8) = valT b (k / 8) (k % 8 + 1) * 2 ^ (7 - k % 8) := by
      unfold pkB
      by_cases h8 : 8 * (k / 8) + 8 ≤ k + 1
      · rw [if_pos h8]
        have e7 : k % 8 = 7 := by omega
        rw [e7]; simp
      · rw [if_neg h8, if_neg (by omega)]
        have e1 : k + 1 - 8 * (k / 8) = k % 8 + 1 := by omega
        have e2 : 8 * (k / 8) + 8 - (k + 1) = 7 - k % 8 := by omega
        rw [e1, e2]
    have p : (2 : Int) ^ (8 - k % 8) = 2 * 2 ^ (7 - k % 8) := by
      have : 8 - k % 8 = (7 - k % 8) + 1 := by omega
      rw [this, Int.pow_succ, Int.mul_comm]
    rw [g, e, p]
    grind
  · rw [if_neg h]
    unfold pkB
    by_cases h1 : 8 * j + 8 ≤ k
    · rw [if_pos h1, if_pos (by omega)]
    · by_cases h2 : k + 1 ≤ 8 * j
      · rw [if_neg h1, if_neg (by omega), if_pos (by omega : k + 1 ≤ 8 * j), if_pos (by omega : k ≤ 8 * j)]
      · exfalso; omega
theorem pow_cases (t : Nat) (h : t < 8) : (2 : Int) ^ t = 1 ∨ (2 : Int) ^ t = 2 ∨ (2 : Int) ^ t = 4 ∨ (2 : Int) ^ t = 8 ∨ (2 : Int) ^ t = 16 ∨ (2 : Int) ^ t = 32 ∨ (2 : Int) ^ t = 64 ∨ (2 : Int) ^ t = 128 := by
  match t, h with
  | 0, _ => simp
  | 1, _ => simp
  | 2, _ => simp
  | 3, _ => simp
  | 4, _ => simp
  | 5, _ => simp
  | 6, _ => simp
  | 7, _ => simp
/-- What is packed next fits: the byte so far is a multiple of twice the next place, and there is room. -/
theorem pkB_room {b : Nat → Int} {k : Nat} (h : ∀ i, i < k → 0 ≤ b i ∧ b i ≤ 1) : 0 ≤ pkB b k (k / 8) ∧ pkB b k (k / 8) % (2 * 2 ^ (7 - k % 8)) = 0 ∧ pkB b k (k / 8) + 2 * 2 ^ (7 - k % 8) ≤ 256 := by
  rw [pkB_at]
  have v := valT_bd (b := b) (j := k / 8) (k % 8) (fun i hi => h _ (by omega))
  have p : (2 : Int) ^ (8 - k % 8) = 2 * 2 ^ (7 - k % 8) := by
    have : 8 - k % 8 = (7 - k % 8) + 1 := by omega
    rw [this, Int.pow_succ, Int.mul_comm]
  have q : (2 : Int) ^ (k % 8) * 2 ^ (8 - k % 8) = 256 := by
    rw [← Int.pow_add]
    have : k % 8 + (8 - k % 8) = 8 := by omega
    rw [this]; rfl
  have pp : (0 : Int) < 2 ^ (8 - k % 8) := Int.pow_pos (by omega)
  rw [← p]
  refine ⟨Int.mul_nonneg v.1 (by omega), Int.mul_emod_left _ _, ?_⟩
  have := Int.mul_le_mul_of_nonneg_right (a := valT b (k / 8) (k % 8) + 1) (b := 2 ^ (k % 8)) (c := 2 ^ (8 - k % 8)) (by omega) (by omega)
  rw [q, Int.add_mul, Int.one_mul] at this
  exact this
theorem valT8 (b : Nat → Int) (j : Nat) : valT b j 8 = 128 * b (8 * j) + 64 * b (8 * j + 1) + 32 * b (8 * j + 2) + 16 * b (8 * j + 3) + 8 * b (8 * j + 4) + 4 * b (8 * j + 5) + 2 * b (8 * j + 6) + b (8 * j + 7) := by
  simp only [valT, Nat.add_zero]
  omega
/-- The bits of what was packed are the bits; those behind them are 0. -/
theorem pk_val (b : Nat → Int) (n j : Nat) : pkB b n j = valT (fun i => if i < n then b i else 0) j 8 := by
  have key : ∀ t, t ≤ 8 → ∀ c : Nat → Int, (∀ i, i < t → c (8 * j + i) = b (8 * j + i)) → valT c j t = valT b j t := by
    intro t
    induction t with
    | zero => intro _ _ _; rfl
    | succ t ih => intro ht c hc; simp only [valT]; rw [ih (by omega) c (fun i hi => hc i (by omega)), hc t (by omega)]
  have tail : ∀ t s, s + t ≤ 8 → ∀ c : Nat → Int, (∀ i, s ≤ i → i < s + t → c (8 * j + i) = 0) → valT c j (s + t) = valT c j s * 2 ^ t := by
    intro t
    induction t with
    | zero => intro s _ c _; simp
    | succ t ih =>
      intro s hs c hc
      rw [← Nat.add_assoc]
      simp only [valT]
      rw [ih s (by omega) c (fun i h1 h2 => hc i h1 (by omega)), hc (s + t) (by omega) (by omega), Int.pow_succ]
      grind
  unfold pkB
  by_cases h1 : 8 * j + 8 ≤ n
  · rw [if_pos h1]
    exact (key 8 (by omega) _ (fun i hi => by rw [if_pos (by omega)])).symm
  · by_cases h2 : n ≤ 8 * j
    · rw [if_neg h1, if_pos h2]
      have := tail 8 0 (by omega) (fun i => if i < n then b i else 0) (fun i _ hi => by rw [if_neg (by omega)])
      rw [Nat.zero_add] at this
      rw [this]; simp [valT]
    · rw [if_neg h1, if_neg h2]
      have := tail (8 * j + 8 - n) (n - 8 * j) (by omega) (fun i => if i < n then b i else 0) (fun i _ hi => by rw [if_neg (by omega)])
      have e : n - 8 * j + (8 * j + 8 - n) = 8 := by omega
      rw [e] at this
      have k2 := key (n - 8 * j) (by omega) (fun i => if i < n then b i else 0) (fun i hi => if_pos (by omega))
      rw [this, k2]
theorem bit_val (c : Nat → Int) (k : Nat) (h : ∀ i, 0 ≤ c i ∧ c i ≤ 1) : bitB (valT c (k / 8) 8) k = c k := by
  rw [valT8]
  have h0 := h (8 * (k / 8)); have h1 := h (8 * (k / 8) + 1); have h2 := h (8 * (k / 8) + 2); have h3 := h (8 * (k / 8) + 3)
  have h4 := h (8 * (k / 8) + 4); have h5 := h (8 * (k / 8) + 5); have h6 := h (8 * (k / 8) + 6); have h7 := h (8 * (k / 8) + 7)
  unfold bitB
  have hk : k = 8 * (k / 8) + k % 8 := by omega
  have ht : k % 8 < 8 := by omega
  generalize k / 8 = j at *
  generalize k % 8 = t at *
  subst hk
  match t, ht with
  | 0, _ => simp; omega
  | 1, _ => simp; omega
  | 2, _ => simp; omega
  | 3, _ => simp; omega
  | 4, _ => simp; omega
  | 5, _ => simp; omega
  | 6, _ => simp; omega
  | 7, _ => simp; omega
theorem unp_pk (b : Nat → Int) (n k : Nat) (h : ∀ i, i < n → 0 ≤ b i ∧ b i ≤ 1) : unpB (pkB b n) k = if k < n then b k else 0 := by
  unfold unpB
  rw [pk_val]
  exact bit_val _ k (fun i => by by_cases e : i < n <;> simp only [e, if_true, if_false]; exact h i e; omega)
/-- Packing all bits of some bytes restores them. -/
theorem pk_unp (c : Nat → Int) (len j : Nat) (hj : j < len) (h : ∀ i, i < len → 0 ≤ c i ∧ c i ≤ 255) : pkB (unpB c) (8 * len) j = c j := by
  unfold pkB
  rw [if_pos (by omega), valT8]
  have hc := h j hj
  have e : ∀ t, t < 8 → unpB c (8 * j + t) = c j / 2 ^ (7 - t) % 2 := by
    intro t ht
    unfold unpB bitB
    have e1 : (8 * j + t) / 8 = j := by omega
    have e2 : (8 * j + t) % 8 = t := by omega
    rw [e1, e2]
  have e0 := e 0 (by omega)
  rw [Nat.add_zero] at e0
  rw [e0, e 1 (by omega), e 2 (by omega), e 3 (by omega), e 4 (by omega), e 5 (by omega), e 6 (by omega), e 7 (by omega)]
  generalize c j = x at *
  simp
  omega

/-- A list of at most 20000 numbers 0 and 1. -/
def bitsB (b : Nat → Int) (n : Nat) : Bool := decide (n ≤ 20000) && (List.range n).all fun k => decide (0 ≤ b k ∧ b k ≤ 1)
theorem bitsB_true {b : Nat → Int} {n : Nat} (hn : n ≤ 20000) (h : ∀ k, k < n → 0 ≤ b k ∧ b k ≤ 1) : bitsB b n = true := by
  simp only [bitsB, Bool.and_eq_true, List.all_eq_true, List.mem_range, decide_eq_true_eq]; exact ⟨hn, h⟩
theorem bitsB_out {b : Nat → Int} {n : Nat} (h : bitsB b n = true) : n ≤ 20000 ∧ ∀ k, k < n → 0 ≤ b k ∧ b k ≤ 1 := by
  simpa only [bitsB, Bool.and_eq_true, List.all_eq_true, List.mem_range, decide_eq_true_eq] using h
theorem bitsB_long {b : Nat → Int} {n : Nat} (hn : 20000 < n) : bitsB b n = false := by
  cases e : bitsB b n with
  | false => rfl
  | true => exact absurd (bitsB_out e).1 (by omega)
theorem bitsB_false {b : Nat → Int} {n : Nat} (k : Nat) (hk : k < n) (h : ¬ (0 ≤ b k ∧ b k ≤ 1)) : bitsB b n = false := by
  cases e : bitsB b n with
  | false => rfl
  | true => exact absurd ((bitsB_out e).2 k hk) h

theorem bitsValid_any (v : Value) (n : Nat) (b : Nat → Int) (w : World) (h : Sr .i64 w.heap.size w v n b) (hn : n ≤ 1000000000000) :
    Calls Try.prog 28 #[v] w fun e w' => e = .returned (.bool (bitsB b n)) ∧ w = w' := by
  obtain ⟨a, cap, rfl, _, hc⟩ := h
  have HC := Lib.hid hc; clear hc
  by_cases hl : 20000 < n
  · have HT := Lib.hid (bitsB_long (b := b) hl)
    go_enter Try.func28, Try.ntmps28
    go_wp2
    go_ret
    exact ⟨by rw [HT.out]; rfl, rfl⟩
  · go_enter Try.func28, Try.ntmps28
    go_wp2
    go_loop [10] (fun i => ∃ k : Nat, k ≤ n ∧ i = .int .i64 k ∧ Hid (∀ j, j < k → 0 ≤ b j ∧ b j ≤ 1)) (fun i => n - (intOf i).toNat)
    case atStart => exact ⟨0, by omega, rfl, fun j hj => absurd hj (by omega)⟩
    case round =>
      obtain ⟨k, hk, rfl, HJ⟩ := hrel
      by_cases hlt : k < n
      · obtain ⟨g, off, rfl, hg, hcell⟩ := HC.out (by omega)
        have hi := hcell k hlt
        clear hcell HC
        by_cases h0 : b k = 0
        · have e0 : (b k != 0) = false := by simp [h0]
          have H0 := Lib.hid h0; clear h0
          go_wp2_with fail
          go_round
          case rel => exact ⟨k + 1, by omega, by go_num, fun j hj => by by_cases e : j = k; (subst e; have := H0.out; omega); exact HJ.out j (by omega)⟩
          case measure => simp [intOf]; omega
        · have e0 : (b k != 0) = true := by simp [h0]
          by_cases h1 : b k = 1
          · have e1 : (b k != 1) = false := by simp [h1]
            have H1 := Lib.hid h1; clear h0 h1
            go_wp2_with fail
            go_round
            case rel => exact ⟨k + 1, by omega, by go_num, fun j hj => by by_cases e : j = k; (subst e; have := H1.out; omega); exact HJ.out j (by omega)⟩
            case measure => simp [intOf]; omega
          · have e1 : (b k != 1) = true := by simp [h1]
            have HF := Lib.hid (bitsB_false (b := b) k hlt (by omega)); clear h0 h1
            go_wp2_with fail
            go_ret
            exact ⟨by rw [HF.out]; rfl, rfl⟩
      · have HF := Lib.hid (bitsB_true (b := b) (n := n) (by omega) (fun j hj => HJ.out j (by omega)))
        go_wp2_with fail
        go_ret
        exact ⟨by rw [HF.out]; rfl, rfl⟩

theorem l2Bits_any (v : Value) (n : Nat) (b : Nat → Int) (w : World) (h : Sr .i64 w.heap.size w v n b) (hn : n ≤ 1000000000000) :
    Calls Try.prog 27 #[v] w fun e w' => e = .returned (.bool (bitsB b n)) ∧ w = w' := by
  obtain ⟨a, cap, rfl, _, hc⟩ := h
  have HC := Lib.hid hc; clear hc
  by_cases hl : 20000 < n
  · have HT := Lib.hid (bitsB_long (b := b) hl)
    go_enter Try.func27, Try.ntmps27
    go_wp2
    go_ret
    exact ⟨by rw [HT.out]; rfl, rfl⟩
  · go_enter Try.func27, Try.ntmps27
    go_wp2
    go_loop [3] (fun i => ∃ k : Nat, k ≤ n ∧ i = .int .i64 k ∧ Hid (∀ j, j < k → 0 ≤ b j ∧ b j ≤ 1)) (fun i => n - (intOf i).toNat)
    case atStart => exact ⟨0, by omega, rfl, fun j hj => absurd hj (by omega)⟩
    case round =>
      obtain ⟨k, hk, rfl, HJ⟩ := hrel
      by_cases hlt : k < n
      · obtain ⟨g, off, rfl, hg, hcell⟩ := HC.out (by omega)
        have hi := hcell k hlt
        clear hcell HC
        by_cases h1 : b k < 0 ∨ 1 < b k
        · have H1 := Lib.hid h1; clear h1
          go_wp2_with (go_at_call 26; refine (l1In_no _ _ _ _ H1.out).mono ?_; rintro e w' ⟨rfl, rfl⟩)
          go_ret
          exact ⟨by rw [bitsB_false (b := b) k hlt (by have := H1.out; omega)]; rfl, rfl⟩
        · have h1 : 0 ≤ b k := by omega
          have h2 : b k ≤ 1 := by omega
          go_wp2_with (go_at_call 26; refine (l1In_yes _ _ _ _ (by omega) (by omega)).mono ?_; rintro e w' ⟨rfl, rfl⟩)
          go_round
          case rel => exact ⟨k + 1, by omega, by go_num, fun j hj => by by_cases e : j = k; (subst e; omega); exact HJ.out j (by omega)⟩
          case measure => simp [intOf]; omega
      · have HF := Lib.hid (bitsB_true (b := b) (n := n) (by omega) (fun j hj => HJ.out j (by omega)))
        go_wp2_with fail
        go_ret
        exact ⟨by rw [HF.out]; rfl, rfl⟩

def pkN (b : Nat → Int) (n : Nat) : Nat := if bitsB b n then (n + 7) / 8 else 0
theorem or_u8 (x y : Int) (t : Nat) (ht : t < 8) (h0 : 0 ≤ x) (h1 : x % (2 * 2 ^ t) = 0) (h2 : x + 2 * 2 ^ t ≤ 256) (hy : y = 0 ∨ y = 1) : bits .or .u8 x (y * 2 ^ t) = x + y * 2 ^ t := by
  obtain ⟨n, rfl⟩ := Int.eq_ofNat_of_zero_le h0
  have key : ∀ t : Nat, t < 8 → ∀ n : Nat, n < 256 → n % (2 * 2 ^ t) = 0 → bits .or .u8 (n : Int) 0 = (n : Int) ∧ bits .or .u8 (n : Int) (2 ^ t) = (n : Int) + 2 ^ t := by decide +kernel
  have hp : (0 : Int) < 2 ^ t := Int.pow_pos (by omega)
  have k := key t ht n (by omega) (by
    have : ((n % (2 * 2 ^ t) : Nat) : Int) = 0 := by rw [Int.natCast_emod]; simpa using h1
    omega)
  rcases hy with rfl | rfl
  · simpa using k.1
  · simpa using k.2
theorem bit_pow {b : Nat → Int} {k : Nat} (h : ∀ i, i < k + 1 → 0 ≤ b i ∧ b i ≤ 1) : 0 ≤ b k * 2 ^ (7 - k % 8) ∧ b k * 2 ^ (7 - k % 8) ≤ 128 ∧ b k * 2 ^ (7 - k % 8) ≤ 2 ^ (7 - k % 8) := by
  have hb := h k (by omega)
  have hp := pow_cases (7 - k % 8) (by omega)
  have : b k = 0 ∨ b k = 1 := by omega
  rcases this with e | e <;> rw [e] <;> omega
theorem pk_or {b : Nat → Int} {k : Nat} (h : ∀ i, i < k + 1 → 0 ≤ b i ∧ b i ≤ 1) : bits .or .u8 (pkB b k (k / 8)) (wrap64 (b k * 2 ^ (7 - k % 8)) % 256) = pkB b k (k / 8) + b k * 2 ^ (7 - k % 8) := by
  have hp := bit_pow h
  have hb := h k (by omega)
  have hr := pkB_room (b := b) (k := k) (fun i hi => h i (by omega))
  rw [IntWalk.wrap64_in _ (by omega), Int.emod_eq_of_lt hp.1 (by omega)]
  exact or_u8 _ (b k) (7 - k % 8) (by omega) hr.1 hr.2.1 hr.2.2 (by omega)
theorem pk_add {b : Nat → Int} {k : Nat} (h : ∀ i, i < k + 1 → 0 ≤ b i ∧ b i ≤ 1) : (pkB b k (k / 8) + wrap64 (b k * 2 ^ (7 - k % 8))) % 256 = pkB b k (k / 8) + b k * 2 ^ (7 - k % 8) := by
  have hp := bit_pow h
  have hr := pkB_room (b := b) (k := k) (fun i hi => h i (by omega))
  have hq : (0 : Int) < 2 ^ (7 - k % 8) := Int.pow_pos (by omega)
  rw [IntWalk.wrap64_in _ (by omega), Int.emod_eq_of_lt (by omega) (by omega)]
theorem iPackBits_any (v : Value) (n : Nat) (b : Nat → Int) (w : World) (h : Sr .i64 w.heap.size w v n b) (hn : n ≤ 1000000000000) :
    Calls Try.prog 18 #[v] w (Gave .u8 (pkN b n) (pkB b n) w) := by
  have HS := Lib.hid h
  obtain ⟨a, cap, rfl, _, hc⟩ := h
  have HC := Lib.hid hc; clear hc
  by_cases hv : bitsB b n = true
  · obtain ⟨m, hm⟩ : ∃ m, m = (n + 7) / 8 := ⟨_, rfl⟩
    have HN := Lib.hid (show pkN b n = m by unfold pkN; rw [if_pos hv, hm])
    have HB : Hid (∀ k, k < n → 0 ≤ b k ∧ b k ≤ 1) := (bitsB_out hv).2
    have hl := (bitsB_out hv).1
    rw [HN.out]
    clear HN
    have hm1 : 8 * m ≤ n + 7 := by omega
    have hm2 : n ≤ 8 * m := by omega
    clear hm
    go_enter Try.func18, Try.ntmps18
    go_wp2_with fail
    refine (bitsValid_any _ n b _ HS.out (by omega)).mono ?_; rintro e _ ⟨rfl, rfl⟩
    clear HS
    go_wp2_with (refine makeBytes m (by omega) (by omega) rfl rfl rfl rfl ?_)
    go_loopw [16] (fun i wr => ∃ k : Nat, k ≤ n ∧ i = .int .i64 k ∧ BlkB wr w.heap.size m 5 (pkB b k) ∧ Below w.heap.size w wr) (fun i _ => n - (intOf i).toNat)
    case atStart => exact ⟨0, by omega, rfl, (BlkB.new' rfl).congr (fun j _ => (pkB_zero b 0 j (by omega)).symm), (Below.refl _ _).alloc (Nat.le_refl _) _⟩
    case round =>
      obtain ⟨k, hk, rfl, hX, hbel⟩ := hrel
      by_cases hlt : k < n
      · obtain ⟨g, off, rfl, hg, hcell⟩ := HC.out (by omega)
        have c1 := (hbel.cell (p := ⟨g, off + k, none⟩) hg).trans (hcell k hlt)
        have c2 := hX.cell (k / 8) (by omega)
        have f2 := hX.frozen (k / 8)
        have hb := HB.out k hlt
        have hr := pkB_room (b := b) (k := k) (fun i hi => HB.out i (by omega))
        have HV := Lib.hid (pk_or (b := b) (k := k) (fun i hi => HB.out i (by omega)))
        clear hcell HC hr
        go_wp2_with fail
        go_region
        go_wp2_with fail
        go_roundw
        case rel => exact ⟨k + 1, by omega, by go_num, ((hX.set (k / 8) _).congr (fun j _ => by rw [HV.out, pkB_step]; by_cases e : j = k / 8 <;> simp [e])).drewN 1, (hbel.setCell (by simp) _).drew⟩
        case measure => simp [intOf]; omega
      · obtain rfl : k = n := by omega
        go_wp2_with fail
        go_ret
        exact ⟨_, rfl, Sn.of_blkB hX (Nat.le_refl _) hX.lt, hbel⟩
  · have hv : bitsB b n = false := by simpa using hv
    have HN := Lib.hid (show pkN b n = 0 by unfold pkN; rw [hv]; rfl)
    rw [HN.out]
    go_enter Try.func18, Try.ntmps18
    go_wp2_with fail
    refine (bitsValid_any _ n b _ HS.out (by omega)).mono ?_; rintro e _ ⟨rfl, rfl⟩
    go_wp2_with fail
    go_ret
    exact ⟨_, rfl, Sn.empty _ _ _ _ _ _ _, Below.refl _ _⟩
theorem sPackBits_any (v : Value) (n : Nat) (b : Nat → Int) (w : World) (h : Sr .i64 w.heap.size w v n b) (hn : n ≤ 1000000000000) :
    Calls Try.prog 16 #[v] w (Gave .u8 (pkN b n) (pkB b n) w) := by
  have HS := Lib.hid h
  obtain ⟨a, cap, rfl, _, hc⟩ := h
  have HC := Lib.hid hc; clear hc
  have hB0 : Below w.heap.size w (w.alloc (.cells #[] 5)) := (Below.refl _ _).alloc (Nat.le_refl _) _
  by_cases hv : bitsB b n = true
  · obtain ⟨m, hm⟩ : ∃ m, m = (n + 7) / 8 := ⟨_, rfl⟩
    have HN := Lib.hid (show pkN b n = m by unfold pkN; rw [if_pos hv, hm])
    have HB : Hid (∀ k, k < n → 0 ≤ b k ∧ b k ≤ 1) := (bitsB_out hv).2
    have hl := (bitsB_out hv).1
    rw [HN.out]
    clear HN
    have hm1 : 8 * m ≤ n + 7 := by omega
    have hm2 : n ≤ 8 * m := by omega
    clear hm
    have HS2 := Lib.hid ((HS.out.alloc (Nat.le_refl _) (.cells #[] 5)).mono (hi' := (w.alloc (.cells #[] 5)).heap.size) (by simp))
    clear HS
    go_enter Try.func16, Try.ntmps16
    go_wp2_with fail
    refine (l2Bits_any _ n b _ HS2.out (by omega)).mono ?_; rintro e _ ⟨rfl, rfl⟩
    clear HS2
    go_wp2_with fail
    go_loopw [3, 4] (fun v i wr => ∃ k : Nat, k ≤ n ∧ i = .int .i64 k ∧ OwnK .u8 5 w.heap.size wr v ((k + 7) / 8) (pkB b k) ∧ Below w.heap.size w wr) (fun _ i _ => n - (intOf i).toNat)
    case atStart => exact ⟨0, by omega, rfl, OwnK.made (Nat.le_refl _) _, hB0⟩
    case round =>
      clear hB0
      obtain ⟨k, hk, rfl, hX, hbel⟩ := hrel
      by_cases hlt : k < n
      · obtain ⟨g, off, rfl, hg, hcell⟩ := HC.out (by omega)
        have hck := hcell k hlt
        have hb := HB.out k hlt
        have hr := pkB_room (b := b) (k := k) (fun i hi => HB.out i (by omega))
        have HV := Lib.hid (pk_add (b := b) (k := k) (fun i hi => HB.out i (by omega)))
        clear hcell HC
        by_cases h8 : k % 8 = 0
        · have e8 : ((k : Int) % 8 == 0) = true := by simp; omega
          have H8 := Lib.hid h8; clear h8
          go_wp2_with (at_builtin; refine appendByte w.heap.size _ wr.heap.size (hX.alloc _) (new_cell _ _ _) (by omega) (by have := hbel.size; simp; omega) rfl rfl rfl rfl ?_; intro v' w1 hX1 hgrow hat)
          have hB1 := grown_below (hbel.alloc hbel.size _) hgrow (hX.alloc _) (Nat.le_refl _) (by have := hbel.size; simp; omega)
          have e1 : (k + 7) / 8 = k / 8 := by have := H8.out; omega
          have hX2 := hX1.congr (g := pkB b k) (fun i hi => by
            by_cases e : i = (k + 7) / 8
            · rw [if_pos e, pkB_zero b k i (by have := H8.out; omega)]
            · rw [if_neg e])
          rw [e1] at hX2
          clear hX1 hgrow hat e1 hX hbel
          have c1 := (hB1.cell (p := ⟨g, off + k, none⟩) hg).trans hck
          clear hck
          obtain ⟨g', cap', rfl, hcap', hg1, hg2, hcells⟩ := hX2.form (by omega)
          have c2 := (hcells (k / 8) (by omega)).1
          have f2 := (hcells (k / 8) (by omega)).2
          clear hcells
          go_wp2_with fail
          go_region
          go_wp2_with fail
          go_roundw
          case rel =>
            refine ⟨k + 1, by omega, by go_num, ?_, (hB1.setCell (by simp; omega) _).drew⟩
            rw [show (k + 1 + 7) / 8 = k / 8 + 1 by omega]
            exact ((hX2.set (k / 8) _).congr (fun j _ => by rw [HV.out, pkB_step]; by_cases e : j = k / 8 <;> simp [e])).drewN 1
          case measure => simp [intOf]; omega
        · have e8 : ((k : Int) % 8 == 0) = false := by simp; omega
          have H8 := Lib.hid h8; clear h8
          have hX2 := hX
          rw [show (k + 7) / 8 = k / 8 + 1 by have := H8.out; omega] at hX2
          have c1 := (hbel.cell (p := ⟨g, off + k, none⟩) hg).trans hck
          have hB1 := hbel
          clear hck hX hbel
          obtain ⟨g', cap', rfl, hcap', hg1, hg2, hcells⟩ := hX2.form (by omega)
          have c2 := (hcells (k / 8) (by omega)).1
          have f2 := (hcells (k / 8) (by omega)).2
          clear hcells
          go_wp2_with fail
          go_region
          go_wp2_with fail
          go_roundw
          case rel =>
            refine ⟨k + 1, by omega, by go_num, ?_, (hB1.setCell (by simp; omega) _).drew⟩
            rw [show (k + 1 + 7) / 8 = k / 8 + 1 by omega]
            exact ((hX2.set (k / 8) _).congr (fun j _ => by rw [HV.out, pkB_step]; by_cases e : j = k / 8 <;> simp [e])).drewN 1
          case measure => simp [intOf]; omega
      · obtain rfl : k = n := by omega
        have e : (k + 7) / 8 = m := by omega
        have hX2 := hX.sn
        rw [e] at hX2
        clear e
        go_wp2_with fail
        go_ret
        exact ⟨_, rfl, hX2, hbel⟩
  · have hv : bitsB b n = false := by simpa using hv
    have HN := Lib.hid (show pkN b n = 0 by unfold pkN; rw [hv]; rfl)
    have HS2 := Lib.hid ((HS.out.alloc (Nat.le_refl _) (.cells #[] 5)).mono (hi' := (w.alloc (.cells #[] 5)).heap.size) (by simp))
    rw [HN.out]
    go_enter Try.func16, Try.ntmps16
    go_wp2_with fail
    refine (l2Bits_any _ n b _ HS2.out (by omega)).mono ?_; rintro e _ ⟨rfl, rfl⟩
    go_wp2_with fail
    go_ret
    exact ⟨_, rfl, Sn.empty _ _ _ _ _ _ _, hB0⟩
end Go.Proofs.Ythefdndbbnfaiaa
