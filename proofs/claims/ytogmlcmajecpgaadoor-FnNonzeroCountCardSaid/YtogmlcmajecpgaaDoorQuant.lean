/- Contracts of the functions that quantize: the table of steps, Quantize, Dequantize, of the program and of the reference. -/
import Derived.Test.YtogmlcmajecpgaaDoorScalar
namespace Go.Proofs.YtogmlcmajecpgaaDoor
open Go.RowKit

def steps : List Int := [1, 2, 4, 8, 12, 16, 24, 32, 48, 64, 96, 128, 192, 256, 384, 512]
def stepN (k : Nat) : Int := steps.getD k 0
def stepOf (q : Int) : Int := if q < 0 ∨ 15 < q then 0 else stepN q.toNat
theorem stepN_bd : ∀ k, k < 16 → 1 ≤ stepN k ∧ stepN k ≤ 512 := by decide
theorem stepOf_in (k : Nat) (h : k < 16) : stepOf k = stepN k := by unfold stepOf; rw [if_neg (by omega)]; rfl
theorem stepOf_out (q : Int) (h : q < 0 ∨ 15 < q) : stepOf q = 0 := by unfold stepOf; rw [if_pos h]
theorem stepOf_bd (q : Int) (h : 0 ≤ q) (h' : q ≤ 15) : 1 ≤ stepOf q ∧ stepOf q ≤ 512 := by
  obtain ⟨k, rfl⟩ := Int.eq_ofNat_of_zero_le h
  rw [stepOf_in k (by omega)]; exact stepN_bd k (by omega)
theorem tab_get : ∀ (k : Nat) (h : k < 16), ([.int .i64 1, .int .i64 2, .int .i64 4, .int .i64 8, .int .i64 12, .int .i64 16, .int .i64 24, .int .i64 32, .int .i64 48, .int .i64 64, .int .i64 96, .int .i64 128, .int .i64 192, .int .i64 256, .int .i64 384, .int .i64 512] : List Value)[k]'h = .int .i64 (stepN k)
  | 0, _ => rfl | 1, _ => rfl | 2, _ => rfl | 3, _ => rfl | 4, _ => rfl | 5, _ => rfl | 6, _ => rfl | 7, _ => rfl | 8, _ => rfl | 9, _ => rfl | 10, _ => rfl | 11, _ => rfl | 12, _ => rfl | 13, _ => rfl | 14, _ => rfl | 15, _ => rfl
  | n + 16, h => absurd h (by omega)
def deqI (l q : Int) : Int := if q < 0 ∨ 15 < q ∨ l < -4080 ∨ 4080 < l then 0 else clampI (l * stepOf q) (-4080) 4080
theorem mul_bd (l s : Int) (h1 : -4080 ≤ l) (h2 : l ≤ 4080) (h3 : 1 ≤ s) (h4 : s ≤ 512) : -2088960 ≤ l * s ∧ l * s ≤ 2088960 := by
  have a : l * s ≤ 4080 * s := Int.mul_le_mul_of_nonneg_right h2 (by omega)
  have b : (-4080) * s ≤ l * s := Int.mul_le_mul_of_nonneg_right h1 (by omega)
  omega
def quaI (c s : Int) : Int := if c < 0 then -((2 * absI c + s) / (2 * s)) else (2 * absI c + s) / (2 * s)
def quantI (c q : Int) : Int := if q < 0 ∨ 15 < q ∨ c < -4080 ∨ 4080 < c then 0 else quaI c (stepOf q)
theorem quaI_pos (c s : Int) (h : ¬ c < 0) : (c * 2 + s) / (2 * s) = quaI c s := by
  unfold quaI absI; rw [if_neg h, if_neg h, Int.mul_comm c 2]
theorem quaI_neg (c s : Int) (h : c < 0) (h1 : -4080 ≤ c) (h2 : 1 ≤ s ∧ s ≤ 512) : wrap64 (-((-c * 2 + s) / (2 * s))) = quaI c s := by
  have := IntWalk.tdiv_le (-c * 2 + s) (2 * s) (by omega) (by omega)
  unfold quaI absI; rw [if_pos h, if_pos h, Int.mul_comm (-c) 2, IntWalk.wrap64_in _ (by rw [Int.mul_comm] at this; omega)]

/-- The table of the steps lies in memory as the program's text lays it. -/
def HasTab (w : World) : Prop := ∀ i, i < 16 → w.cell? ⟨0, i, none⟩ = some (.int .i64 (stepN i))
theorem HasTab.below {B : Nat} {w w' : World} (h : HasTab w) (hb : Below B w w') (hB : 0 < B) : HasTab w' := fun i hi => (hb.cell (p := ⟨0, i, none⟩) hB).trans (h i hi)
theorem HasTab.size {w : World} (h : HasTab w) : 0 < w.heap.size := by
  have h0 := h 0 (by decide)
  apply Classical.byContradiction
  intro hn
  rw [World.cell?, Array.getElem?_eq_none (by simpa using hn)] at h0
  simp at h0
theorem iQuantize_any (c q : Int) (w : World) (ht : HasTab w) :
    Calls Tryd.prog 7 #[.int .i64 c, .int .i64 q] w fun e w' => e = .returned (.int .i64 (quantI c q)) ∧ Below w.heap.size w w' := by
  by_cases h : q < 0 ∨ 15 < q
  · have H := Lib.hid h; clear h ht
    go_enter Tryd.func7, Tryd.ntmps7
    go_wp2_with (go_at_call 12; refine (qualityValid_no _ _ (by have := H.out; omega)).mono ?_; rintro e w' ⟨rfl, rfl⟩)
    go_ret
    exact ⟨ret_int (by unfold quantI; rw [if_pos (by have := H.out; omega)]), Below.refl _ _⟩
  · have h3 : 0 ≤ q := by omega
    have h4 : q ≤ 15 := by omega
    clear h
    by_cases h1 : c < -4080
    · clear ht
      go_enter Tryd.func7, Tryd.ntmps7
      go_wp2_with (go_at_call 12; refine (qualityValid_yes _ _ (by omega) (by omega)).mono ?_; rintro e w' ⟨rfl, rfl⟩)
      go_ret
      exact ⟨ret_int (by unfold quantI; rw [if_pos (by omega)]), Below.refl _ _⟩
    · by_cases h2 : 4080 < c
      · clear ht
        go_enter Tryd.func7, Tryd.ntmps7
        go_wp2_with (go_at_call 12; refine (qualityValid_yes _ _ (by omega) (by omega)).mono ?_; rintro e w' ⟨rfl, rfl⟩)
        go_ret
        exact ⟨ret_int (by unfold quantI; rw [if_pos (by omega)]), Below.refl _ _⟩
      · obtain ⟨k, rfl⟩ := Int.eq_ofNat_of_zero_le (a := q) (by omega)
        have hk : k < 16 := by omega
        have hc := ht k hk
        have hs := stepN_bd k hk
        have ha : 0 ≤ absI c ∧ absI c ≤ 4080 := by unfold absI; omega
        have hr : 0 ≤ roundI (absI c) (stepN k) ∧ roundI (absI c) (stepN k) ≤ 9000 := by
          unfold roundI
          have := IntWalk.tdiv_le (2 * absI c + stepN k) (2 * stepN k) (by omega) (by omega)
          omega
        clear ht
        have hk1 : (k : Int) < 16 := by omega
        have hk0 : (0 : Int) ≤ k := by omega
        by_cases hn : c < 0
        all_goals
          go_enter Tryd.func7, Tryd.ntmps7
          go_wp2_with fail
          refine (qualityValid_yes _ _ (by omega) (by omega)).mono ?_; rintro e w' ⟨rfl, rfl⟩
          go_wp2_with fail
          go_quiet (first | (go_at_call 14; exact quietL (iabs_any _ _ (by omega) (by omega))) | (go_at_call 13; exact quietL (rounded_any _ _ _ (by omega) (by omega) (by omega) (by omega))))
          go_wp2_with fail
          go_ret
          exact ⟨ret_int (by unfold quantI; rw [if_neg (by omega), stepOf_in k hk]; unfold quaI roundI; first | rw [if_pos hn] | rw [if_neg (by omega)]), below_drewN (Below.refl _ _) _⟩

end Go.Proofs.YtogmlcmajecpgaaDoor
