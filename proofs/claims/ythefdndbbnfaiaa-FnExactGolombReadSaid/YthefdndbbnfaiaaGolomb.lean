/- Contracts of GolombRead, of the program and of the reference, and the walk of the exact law. -/
import Derived.Test.YthefdndbbnfaiaaPack
import Derived.Test.YthefdndbbnfaiaaOpenPic
namespace Go.Proofs.Ythefdndbbnfaiaa
open Go.RowKit

/-- The number of zeros of b from index p on, as far as index n. -/
def zerosTo (b : Nat → Int) (p n : Nat) : Nat → Nat
  | 0 => 0
  | f + 1 => if p < n then (if b p = 0 then zerosTo b (p + 1) n f + 1 else 0) else 0
def zerosAt (b : Nat → Int) (p n : Nat) : Nat := zerosTo b p n n
/-- k is the number of zeros from index p on: all k are zeros, and the next is no zero or lies behind the end. -/
def IsZeros (b : Nat → Int) (p n k : Nat) : Prop := (p + k ≤ n ∧ ∀ i, i < k → b (p + i) = 0) ∧ (p + k = n ∨ b (p + k) ≠ 0)
theorem IsZeros.unique {b : Nat → Int} {p n k m : Nat} (h : IsZeros b p n k) (h' : IsZeros b p n m) : k = m := by
  rcases Nat.lt_trichotomy k m with hl | hl | hl
  · rcases h.2 with e | e
    · have := h'.1.1; omega
    · exact absurd (h'.1.2 k hl) e
  · exact hl
  · rcases h'.2 with e | e
    · have := h.1.1; omega
    · exact absurd (h.1.2 m hl) e
/-- The number whose binary digits are c numbers from index p on. -/
def numAt (b : Nat → Int) (p : Nat) : Nat → Int
  | 0 => 0
  | c + 1 => 2 * numAt b p c + b (p + c)
theorem numAt_bd {b : Nat → Int} {p : Nat} : ∀ c, (∀ i, i < c → 0 ≤ b (p + i) ∧ b (p + i) ≤ 1) → 0 ≤ numAt b p c ∧ numAt b p c < 2 ^ c
  | 0, _ => by simp [numAt]
  | c + 1, h => by
    have a := numAt_bd c (fun i hi => h i (by omega))
    have d := h c (by omega)
    simp only [numAt, Int.pow_succ]
    omega
theorem pow16 : ∀ j : Nat, j ≤ 16 → (2 : Int) ^ j ≤ 65536 := by decide
/-- What GolombRead returns: three values. -/
def GolR (b : Nat → Int) (n : Nat) (p : Int) (e : Ending) : Prop :=
  (e = .returned (.tuple #[.int .i64 0, .int .i64 0, .bool false]) ∧ (bitsB b n = false ∨ p < 0 ∨ (n : Int) ≤ p ∨ ∃ k : Nat, IsZeros b p.toNat n k ∧ (15 < k ∨ (n : Int) ≤ p + 2 * k))) ∨
  ∃ k : Nat, e = .returned (.tuple #[.int .i64 (numAt b (p.toNat + k) (k + 1) - 1), .int .i64 (p + 2 * k + 1), .bool true]) ∧ bitsB b n = true ∧ 0 ≤ p ∧ p < n ∧ IsZeros b p.toNat n k ∧ k ≤ 15 ∧ p + 2 * k < n
theorem GolR.same {b : Nat → Int} {n : Nat} {p : Int} {e e' : Ending} (h : GolR b n p e) (h' : GolR b n p e') : e = e' := by
  rcases h with ⟨he, h⟩ | ⟨k, he, hb, h0, h1, hz, hk, hn⟩ <;> rcases h' with ⟨he', h'⟩ | ⟨m, he', hb', h0', h1', hz', hk', hn'⟩
  · rw [he, he']
  · exfalso
    rcases h with h | h | h | ⟨j, hj, h⟩
    · rw [h] at hb'; cases hb'
    · omega
    · omega
    · have := hj.unique hz'; omega
  · exfalso
    rcases h' with h | h | h | ⟨j, hj, h⟩
    · rw [h] at hb; cases hb
    · omega
    · omega
    · have := hj.unique hz; omega
  · have := hz.unique hz'
    subst this
    rw [he, he']

set_option maxRecDepth 100000 in
theorem Len64_any (w : World) : Calls Try.prog 38 #[.int .u64 65534] w fun e w' => e = .returned (.int .i64 16) ∧ w = w' := by
  go_enter Try.func38, Try.ntmps38
  go_wp2
  go_ret
  exact ⟨by kernel_rfl, rfl⟩
theorem Len_any (w : World) : Calls Try.prog 33 #[.int .u64 65534] w fun e w' => e = .returned (.int .i64 16) ∧ w = w' := by
  go_enter Try.func33, Try.ntmps33
  go_wp2_with (go_at_call 38; refine (Len64_any _).mono ?_; rintro e _ ⟨rfl, rfl⟩)
  go_ret
  exact ⟨rfl, rfl⟩
theorem iGolombRead_any (v : Value) (n : Nat) (b : Nat → Int) (p : Int) (w : World) (h : Sr .i64 w.heap.size w v n b) (hn : n ≤ 1000000000000) :
    Calls Try.prog 24 #[v, .int .i64 p] w fun e w' => GolR b n p e ∧ w = w' := by
  have HS := Lib.hid h
  obtain ⟨a, cap, rfl, hcap, hc⟩ := h
  have HC := Lib.hid hc; clear hc
  have fin : ∀ e : Ending, GolR b n p e → Hid (GolR b n p e) := fun e h => h
  by_cases hv : bitsB b n = true
  · obtain ⟨hl, hb⟩ := bitsB_out hv
    by_cases h0 : p < 0
    · have HF := Lib.hid (show GolR b n p (.returned (.tuple #[.int .i64 0, .int .i64 0, .bool false])) from .inl ⟨rfl, .inr (.inl h0)⟩)
      go_enter Try.func24, Try.ntmps24
      go_wp2_with fail
      refine (bitsValid_any _ n b _ HS.out (by omega)).mono ?_; rintro e _ ⟨rfl, rfl⟩
      go_wp2_with fail
      go_ret3
      exact ⟨HF.out, rfl⟩
    · by_cases h1 : (n : Int) ≤ p
      · have HF := Lib.hid (show GolR b n p (.returned (.tuple #[.int .i64 0, .int .i64 0, .bool false])) from .inl ⟨rfl, .inr (.inr (.inl h1))⟩)
        go_enter Try.func24, Try.ntmps24
        go_wp2_with fail
        refine (bitsValid_any _ n b _ HS.out (by omega)).mono ?_; rintro e _ ⟨rfl, rfl⟩
        go_wp2_with fail
        go_ret3
        exact ⟨HF.out, rfl⟩
      · obtain ⟨p, rfl⟩ := Int.eq_ofNat_of_zero_le (a := p) (by omega)
        have hp : p < n := by omega
        have HB := Lib.hid hb
        have HV := Lib.hid hv
        clear h0 h1 hb
        obtain ⟨g, off, rfl, hg, hcell⟩ := HC.out (by omega)
        have HX := Lib.hid hcell; clear hcell HC
        go_enter Try.func24, Try.ntmps24
        go_wp2_with fail
        refine (bitsValid_any _ n b _ HS.out (by omega)).mono ?_; rintro e _ ⟨rfl, rfl⟩
        clear HS hv
        go_wp2_with fail
        go_loop [7] (fun i => ∃ k : Nat, p + k ≤ n ∧ i = .int .i64 k ∧ Hid (∀ j, j < k → b (p + j) = 0)) (fun i => n - (intOf i).toNat)
        case atStart => exact ⟨0, by omega, rfl, fun j hj => absurd hj (by omega)⟩
        case round =>
          obtain ⟨k, hk, rfl, HJ⟩ := hrel
          by_cases hlt : p + k < n
          · have c1 := HX.out (p + k) hlt
            have hbk := HB.out (p + k) hlt
            by_cases hz0 : b (p + k) = 0
            · have e0 : (b (p + k) == 0) = true := by simp [hz0]
              have H0 := Lib.hid hz0; clear hz0
              go_wp2_with fail
              go_round
              case rel => exact ⟨k + 1, by omega, by go_num, fun j hj => by by_cases e : j = k; (subst e; exact H0.out); exact HJ.out j (by omega)⟩
              case measure => simp [intOf]; omega
            · have e0 : (b (p + k) == 0) = false := by simp [hz0]
              have hz : IsZeros b p n k := ⟨⟨by omega, HJ.out⟩, .inr hz0⟩
              clear hz0
              have HZ := Lib.hid hz; clear hz
              by_cases h15 : 15 < k
              · have HF := Lib.hid (show GolR b n p (.returned (.tuple #[.int .i64 0, .int .i64 0, .bool false])) from .inl ⟨rfl, .inr (.inr (.inr ⟨k, by simpa using HZ.out, .inl h15⟩))⟩)
                go_wp2_with fail
                refine (Len_any _).mono ?_; rintro e _ ⟨rfl, rfl⟩
                go_wp2_with fail
                go_ret3
                exact ⟨HF.out, rfl⟩
              · by_cases hend : n ≤ p + 2 * k
                · have HF := Lib.hid (show GolR b n p (.returned (.tuple #[.int .i64 0, .int .i64 0, .bool false])) from .inl ⟨rfl, .inr (.inr (.inr ⟨k, by simpa using HZ.out, .inr (by omega)⟩))⟩)
                  go_wp2_with fail
                  refine (Len_any _).mono ?_; rintro e _ ⟨rfl, rfl⟩
                  go_wp2_with fail
                  go_ret3
                  exact ⟨HF.out, rfl⟩
                · have HF := Lib.hid (show GolR b n p (.returned (.tuple #[.int .i64 (numAt b (p + k) (k + 1) - 1), .int .i64 (p + 2 * k + 1), .bool true])) from .inr ⟨k, by simp, HV.out, by omega, by omega, by simpa using HZ.out, by omega, by omega⟩)
                  clear HJ HZ HV
                  have hcapk : ¬ cap = p + k := by omega
                  go_wp2_with fail
                  refine (Len_any _).mono ?_; rintro e _ ⟨rfl, rfl⟩
                  go_wp2_with fail
                  go_loop [9, 63] (fun s i => ∃ j : Nat, j ≤ k + 1 ∧ i = .int .i64 j ∧ s = .int .i64 (numAt b (p + k) j)) (fun _ i => k + 1 - (intOf i).toNat)
                  case atStart => exact ⟨0, by omega, rfl, rfl⟩
                  case round =>
                    obtain ⟨j, hj, rfl, rfl⟩ := hrel
                    have hbd := numAt_bd (b := b) (p := p + k) j (fun i hi => HB.out _ (by omega))
                    have hpw : (2 : Int) ^ j ≤ 65536 := pow16 j (by omega)
                    have hs1 : 0 ≤ numAt b (p + k) j := hbd.1
                    have hs2 : numAt b (p + k) j ≤ 65536 := by omega
                    clear hbd hpw
                    by_cases hlt : j < k + 1
                    · have c1 := HX.out (p + k + j) (by omega)
                      have hb1 := HB.out (p + k + j) (by omega)
                      rw [show off + (p + k + j) = off + (p + k) + j by omega] at c1
                      go_wp2_with fail
                      go_round
                      case rel => exact ⟨j + 1, by omega, by go_num, rfl⟩
                      case measure => simp [intOf]; omega
                    · obtain rfl : j = k + 1 := by omega
                      go_wp2_with fail
                      go_ret3
                      exact ⟨HF.out, rfl⟩
          · have hz : IsZeros b p n k := ⟨⟨by omega, HJ.out⟩, .inl (by omega)⟩
            have HZ := Lib.hid hz; clear hz
            by_cases h15 : 15 < k
            · have HF := Lib.hid (show GolR b n p (.returned (.tuple #[.int .i64 0, .int .i64 0, .bool false])) from .inl ⟨rfl, .inr (.inr (.inr ⟨k, by simpa using HZ.out, .inl h15⟩))⟩)
              go_wp2_with fail
              refine (Len_any _).mono ?_; rintro e _ ⟨rfl, rfl⟩
              go_wp2_with fail
              go_ret3
              exact ⟨HF.out, rfl⟩
            · by_cases hend : n ≤ p + 2 * k
              · have HF := Lib.hid (show GolR b n p (.returned (.tuple #[.int .i64 0, .int .i64 0, .bool false])) from .inl ⟨rfl, .inr (.inr (.inr ⟨k, by simpa using HZ.out, .inr (by omega)⟩))⟩)
                go_wp2_with fail
                refine (Len_any _).mono ?_; rintro e _ ⟨rfl, rfl⟩
                go_wp2_with fail
                go_ret3
                exact ⟨HF.out, rfl⟩
              · exfalso; omega
  · have hv : bitsB b n = false := by simpa using hv
    have HF := Lib.hid (show GolR b n p (.returned (.tuple #[.int .i64 0, .int .i64 0, .bool false])) from .inl ⟨rfl, .inl hv⟩)
    go_enter Try.func24, Try.ntmps24
    go_wp2_with fail
    refine (bitsValid_any _ n b _ HS.out (by omega)).mono ?_; rintro e _ ⟨rfl, rfl⟩
    go_wp2_with fail
    go_ret3
    exact ⟨HF.out, rfl⟩
theorem sGolombRead_any (v : Value) (n : Nat) (b : Nat → Int) (p : Int) (w : World) (h : Sr .i64 w.heap.size w v n b) (hn : n ≤ 1000000000000) :
    Calls Try.prog 23 #[v, .int .i64 p] w fun e w' => GolR b n p e ∧ w = w' := by
  have HS := Lib.hid h
  obtain ⟨a, cap, rfl, hcap, hc⟩ := h
  have HC := Lib.hid hc; clear hc
  by_cases hv : bitsB b n = true
  · obtain ⟨hl, hb⟩ := bitsB_out hv
    by_cases h0 : p < 0 ∨ (n : Int) < p
    · have HF := Lib.hid (show GolR b n p (.returned (.tuple #[.int .i64 0, .int .i64 0, .bool false])) from .inl ⟨rfl, by omega⟩)
      have H0 := Lib.hid h0; clear h0 hb
      go_enter Try.func23, Try.ntmps23
      go_wp2_with fail
      refine (l2Bits_any _ n b _ HS.out (by omega)).mono ?_; rintro e _ ⟨rfl, rfl⟩
      go_wp2_with fail
      refine (l1In_no _ _ _ _ H0.out).mono ?_; rintro e _ ⟨rfl, rfl⟩
      go_wp2_with fail
      go_ret3
      exact ⟨HF.out, rfl⟩
    · obtain ⟨p, rfl⟩ := Int.eq_ofNat_of_zero_le (a := p) (by omega)
      have hp : p ≤ n := by omega
      have HB := Lib.hid hb
      have HV := Lib.hid hv
      clear h0 hb
      by_cases hn0 : n = 0
      · subst hn0
        obtain rfl : p = 0 := by omega
        have HF := Lib.hid (show GolR b 0 ((0 : Nat) : Int) (.returned (.tuple #[.int .i64 0, .int .i64 0, .bool false])) from .inl ⟨rfl, by omega⟩)
        go_enter Try.func23, Try.ntmps23
        go_wp2_with fail
        refine (l2Bits_any _ 0 b _ HS.out (by omega)).mono ?_; rintro e _ ⟨rfl, rfl⟩
        clear HS hv
        go_wp2_with fail
        refine (l1In_yes _ _ _ _ (by omega) (by omega)).mono ?_; rintro e _ ⟨rfl, rfl⟩
        go_wp2_with fail
        go_loop [7] (fun i => i = .int .i64 0) (fun _ => 0)
        case atStart => rfl
        case round =>
          obtain rfl := hrel
          go_wp2_with fail
          go_ret3
          exact ⟨HF.out, rfl⟩
      · obtain ⟨g, off, rfl, hg, hcell⟩ := HC.out (by omega)
        have HX := Lib.hid hcell; clear hcell HC
        have hn1 : 1 ≤ n := by omega
        clear hn0
        go_enter Try.func23, Try.ntmps23
        go_wp2_with fail
        refine (l2Bits_any _ n b _ HS.out (by omega)).mono ?_; rintro e _ ⟨rfl, rfl⟩
        clear HS hv
        go_wp2_with fail
        refine (l1In_yes _ _ _ _ (by omega) (by omega)).mono ?_; rintro e _ ⟨rfl, rfl⟩
        go_wp2_with fail
        go_loop [7] (fun i => ∃ k : Nat, p + k ≤ n ∧ i = .int .i64 k ∧ Hid (∀ j, j < k → b (p + j) = 0)) (fun i => n - (intOf i).toNat)
        case atStart => exact ⟨0, by omega, rfl, fun j hj => absurd hj (by omega)⟩
        case round =>
          obtain ⟨k, hk, rfl, HJ⟩ := hrel
          by_cases hlt : p + k < n
          · have c1 := HX.out (p + k) hlt
            have hbk := HB.out (p + k) hlt
            by_cases hz0 : b (p + k) = 0
            · have e0 : (b (p + k) == 0) = true := by simp [hz0]
              have H0 := Lib.hid hz0; clear hz0
              go_wp2_with fail
              go_round
              case rel => exact ⟨k + 1, by omega, by go_num, fun j hj => by by_cases e : j = k; (subst e; exact H0.out); exact HJ.out j (by omega)⟩
              case measure => simp [intOf]; omega
            · have e0 : (b (p + k) == 0) = false := by simp [hz0]
              have hz : IsZeros b p n k := ⟨⟨by omega, HJ.out⟩, .inr hz0⟩
              clear hz0
              have HZ := Lib.hid hz; clear hz
              by_cases h15 : 15 < k
              · have HF := Lib.hid (show GolR b n p (.returned (.tuple #[.int .i64 0, .int .i64 0, .bool false])) from .inl ⟨rfl, .inr (.inr (.inr ⟨k, by simpa using HZ.out, .inl h15⟩))⟩)
                go_wp2_with fail
                go_ret3
                exact ⟨HF.out, rfl⟩
              · by_cases hend : n ≤ p + 2 * k
                · have HF := Lib.hid (show GolR b n p (.returned (.tuple #[.int .i64 0, .int .i64 0, .bool false])) from .inl ⟨rfl, .inr (.inr (.inr ⟨k, by simpa using HZ.out, .inr (by omega)⟩))⟩)
                  go_wp2_with fail
                  go_ret3
                  exact ⟨HF.out, rfl⟩
                · have HF := Lib.hid (show GolR b n p (.returned (.tuple #[.int .i64 (numAt b (p + k) (k + 1) - 1), .int .i64 (p + 2 * k + 1), .bool true])) from .inr ⟨k, by simp, HV.out, by omega, by omega, by simpa using HZ.out, by omega, by omega⟩)
                  clear HJ HZ HV
                  go_wp2_with fail
                  go_loop [8, 9] (fun s i => ∃ j : Nat, j ≤ k + 1 ∧ i = .int .i64 j ∧ s = .int .i64 (numAt b (p + k) j)) (fun _ i => k + 1 - (intOf i).toNat)
                  case atStart => exact ⟨0, by omega, rfl, rfl⟩
                  case round =>
                    obtain ⟨j, hj, rfl, rfl⟩ := hrel
                    have hbd := numAt_bd (b := b) (p := p + k) j (fun i hi => HB.out _ (by omega))
                    have hpw : (2 : Int) ^ j ≤ 65536 := pow16 j (by omega)
                    have hs1 : 0 ≤ numAt b (p + k) j := hbd.1
                    have hs2 : numAt b (p + k) j ≤ 65536 := by omega
                    clear hbd hpw
                    by_cases hlt : j < k + 1
                    · have c1 := HX.out (p + k + j) (by omega)
                      have hb1 := HB.out (p + k + j) (by omega)
                      go_wp2_with fail
                      go_round
                      case rel => exact ⟨j + 1, by omega, by go_num, rfl⟩
                      case measure => simp [intOf]; omega
                    · obtain rfl : j = k + 1 := by omega
                      go_wp2_with fail
                      go_ret3
                      exact ⟨HF.out, rfl⟩
          · have hz : IsZeros b p n k := ⟨⟨by omega, HJ.out⟩, .inl (by omega)⟩
            have HZ := Lib.hid hz; clear hz
            by_cases h15 : 15 < k
            · have HF := Lib.hid (show GolR b n p (.returned (.tuple #[.int .i64 0, .int .i64 0, .bool false])) from .inl ⟨rfl, .inr (.inr (.inr ⟨k, by simpa using HZ.out, .inl h15⟩))⟩)
              go_wp2_with fail
              go_ret3
              exact ⟨HF.out, rfl⟩
            · by_cases hend : n ≤ p + 2 * k
              · have HF := Lib.hid (show GolR b n p (.returned (.tuple #[.int .i64 0, .int .i64 0, .bool false])) from .inl ⟨rfl, .inr (.inr (.inr ⟨k, by simpa using HZ.out, .inr (by omega)⟩))⟩)
                go_wp2_with fail
                go_ret3
                exact ⟨HF.out, rfl⟩
              · exfalso; omega
  · have hv : bitsB b n = false := by simpa using hv
    have HF := Lib.hid (show GolR b n p (.returned (.tuple #[.int .i64 0, .int .i64 0, .bool false])) from .inl ⟨rfl, .inl hv⟩)
    go_enter Try.func23, Try.ntmps23
    go_wp2_with fail
    refine (l2Bits_any _ n b _ HS.out (by omega)).mono ?_; rintro e _ ⟨rfl, rfl⟩
    go_wp2_with fail
    go_ret3
    exact ⟨HF.out, rfl⟩
theorem GolR.form {b : Nat → Int} {n : Nat} {p : Int} {e : Ending} (h : GolR b n p e) : ∃ (x y : Int) (t : Bool), e = .returned (.tuple #[.int .i64 x, .int .i64 y, .bool t]) := by
  rcases h with ⟨he, _⟩ | ⟨k, he, _⟩
  · exact ⟨_, _, _, he⟩
  · exact ⟨_, _, _, he⟩
set_option maxRecDepth 100000 in
theorem FnExactGolombRead_walk (a : Option Addr) (len cap : Nat) (zs : List Int) (p : Int) (w : World) (h : IsRow .i64 w a len cap zs) (_hp : (Lit.int .i64 p).wf = true) :
    Calls Try.prog 6 #[.slice a len cap, .int .i64 p] w fun e w' => e = .returned (.bool true) ∧ Below w.heap.size w w' := by
  obtain ⟨hs, hm, hwf⟩ := h.sr
  unfold maxLen at hm
  clear h hwf _hp
  by_cases hl : 1048576 < len
  · clear hs
    go_enter Try.func6, Try.ntmps6
    go_wp2
    go_ret
    exact ⟨rfl, Below.refl _ _⟩
  · have hl : len ≤ 1048576 := by omega
    generalize (fun i => zs.getD i 0) = b at *
    have HA := Lib.hid hs; clear hs
    have HB := Lib.hid (Below.refl w.heap.size w)
    go_enter Try.func6, Try.ntmps6
    go_wp2_with fail
    refine (toIntS_any _ len _ _ (HA.out.mono (by omega)) (by omega)).mono ?_; rintro e w1 ⟨g1, rfl, k1, b1, hw1⟩
    have zw1 : w.heap.size ≤ w1.heap.size := hw1.size
    replace HA := Lib.hid (HA.out.below hw1 (by omega))
    replace HB := Lib.hid (HB.out.trans (hw1.mono (by omega)))
    clear hw1
    have S1 := Lib.hid (MadeInt.sn k1 b1); clear k1 b1
    go_wp2_with fail
    refine (sGolombRead_any _ len b p _ S1.out.sr (by omega)).mono ?_; rintro e _ ⟨hG, rfl⟩
    obtain ⟨x, y, t, rfl⟩ := hG.form
    have HG := Lib.hid hG; clear hG
    clear S1
    go_wp2_with fail
    refine (toIntS_any _ len _ _ (HA.out.mono (by omega)) (by omega)).mono ?_; rintro e w2 ⟨g2, rfl, k2, b2, hw2⟩
    have zw2 : w1.heap.size ≤ w2.heap.size := hw2.size
    replace HA := Lib.hid (HA.out.below hw2 (by omega))
    replace HB := Lib.hid (HB.out.trans (hw2.mono (by omega)))
    clear hw2
    have S2 := Lib.hid (MadeInt.sn k2 b2); clear k2 b2
    go_wp2_with fail
    refine (iGolombRead_any _ len b p _ (S2.out.sr.mono (by omega)) (by omega)).mono ?_; rintro e _ ⟨hG, rfl⟩
    obtain rfl := hG.same HG.out
    clear hG HG
    go_wp2_with fail
    refine (toIntS_any _ len _ _ (HA.out.mono (by omega)) (by omega)).mono ?_; rintro e w3 ⟨g3, rfl, k3, b3, hw3⟩
    have zw3 : w2.heap.size ≤ w3.heap.size := hw3.size
    replace HA := Lib.hid (HA.out.below hw3 (by omega))
    replace HB := Lib.hid (HB.out.trans (hw3.mono (by omega)))
    replace S2 := Lib.hid (S2.out.below hw3 (by omega))
    clear hw3
    have S3 := Lib.hid (MadeInt.sn k3 b3); clear k3 b3
    go_wp2_with fail
    refine (eqIntS_yes _ _ len _ _ _ (S2.out.sr.mono (by omega)) (S3.out.sr.mono (by omega)) (fun _ _ => rfl) (by omega)).mono ?_; rintro e w4 ⟨rfl, hw4⟩
    have zw4 : w3.heap.size ≤ w4.heap.size := hw4.size
    replace HA := Lib.hid (HA.out.below hw4 (by omega))
    replace HB := Lib.hid (HB.out.trans (hw4.mono (by omega)))
    replace S2 := Lib.hid (S2.out.below hw4 (by omega))
    replace S3 := Lib.hid (S3.out.below hw4 (by omega))
    clear hw4
    go_wp2_with fail
    go_ret
    exact ⟨rfl, HB.out⟩
end Go.Proofs.Ythefdndbbnfaiaa
