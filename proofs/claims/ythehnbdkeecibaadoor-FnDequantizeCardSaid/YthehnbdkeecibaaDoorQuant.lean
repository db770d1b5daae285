/- Contracts of the functions that quantize: the table of steps, Quantize, Dequantize, of the program and of the reference. -/
import Derived.Test.YthehnbdkeecibaaDoorScalar
namespace Go.Proofs.YthehnbdkeecibaaDoor
open Go.RowKit

def steps : List Int := [1, 2, 4, 8, 12, 16, 24, 32, 48, 64, 96, 128, 192, 256, 384, 512]
def stepN (k : Nat) : Int := steps.getD k 0
def stepOf (q : Int) : Int := if q < 0 ∨ 15 < q then 0 else stepN q.toNat
theorem stepN_bd : ∀ k, k < 16 → 1 ≤ stepN k ∧ stepN k ≤ 512 := by decide
theorem stepOf_in (k : Nat) (h : k < 16) : stepOf k = stepN k := by unfold stepOf; rw [if_neg (by omega)]; rfl
theorem stepOf_out (q : Int) (h : q < 0 ∨ 15 < q) : stepOf q = 0 := by unfold stepOf; rw [if_pos h]
theorem stepOf_bd (q : Int) (h : 0 ≤ q) (h' : q ≤ 15) : 1 ≤ stepOf q ∧ stepOf q ≤ 512 := by
  obtain ⟨k, rfl⟩ := Int.eq_ofNat_of_zero_le h
  rw [stepOf_in k (by omega)]; exact stepN_bd k (by omega)
theorem tab_get : ∀ (k : Nat) (h : k < 16), ([.int .i64 1, .int .i64 2, .int .i64 4, .int .i64 8, .int .i64 12, .int .i64 16, .int .i64 24, .int .i64 32, .int .i64 48, .int .i64 64, .int .i64 96, .int .i64 128, .int .i64 192, .int .i64 256, .int .i64 384, .int .i64 512] : List Value)[k]'h = .int .i64 (stepN k)
  | 0, _ => rfl | 1, _ => rfl | 2, _ => rfl | 3, _ => rfl | 4, _ => rfl | 5, _ => rfl | 6, _ => rfl | 7, _ => rfl | 8, _ => rfl | 9, _ => rfl | 10, _ => rfl | 11, _ => rfl | 12, _ => rfl | 13, _ => rfl | 14, _ => rfl | 15, _ => rfl
  | n + 16, h => absurd h (by omega)
def deqI (l q : Int) : Int := if q < 0 ∨ 15 < q ∨ l < -4080 ∨ 4080 < l then 0 else clampI (l * stepOf q) (-4080) 4080
theorem mul_bd (l s : Int) (h1 : -4080 ≤ l) (h2 : l ≤ 4080) (h3 : 1 ≤ s) (h4 : s ≤ 512) : -2088960 ≤ l * s ∧ l * s ≤ 2088960 := by
  have a : l * s ≤ 4080 * s := Int.mul_le_mul_of_nonneg_right h2 (by omega)
  have b : (-4080) * s ≤ l * s := Int.mul_le_mul_of_nonneg_right h1 (by omega)
  omega
def quaI (c s : Int) : Int := if c < 0 then -((2 * absI c + s) / (2 * s)) else (2 * absI c + s) / (2 * s)
def quantI (c q : Int) : Int := if q < 0 ∨ 15 < q ∨ c < -4080 ∨ 4080 < c then 0 else quaI c (stepOf q)
theorem quaI_pos (c s : Int) (h : ¬ c < 0) : (c * 2 + s) / (2 * s) = quaI c s := by
  unfold quaI absI; rw [if_neg h, if_neg h, Int.mul_comm c 2]
theorem quaI_neg (c s : Int) (h : c < 0) (h1 : -4080 ≤ c) (h2 : 1 ≤ s ∧ s ≤ 512) : wrap64 (-((-c * 2 + s) / (2 * s))) = quaI c s := by
  have := IntWalk.tdiv_le (-c * 2 + s) (2 * s) (by omega) (by omega)
  unfold quaI absI; rw [if_pos h, if_pos h, Int.mul_comm (-c) 2, IntWalk.wrap64_in _ (by rw [Int.mul_comm] at this; omega)]

theorem sQuantStep_any (q : Int) (w : World) :
    Calls Tryd.prog 9 #[.int .i64 q] w fun e w' => e = .returned (.int .i64 (stepOf q)) ∧ Below w.heap.size w w' := by
  by_cases h : q < 0 ∨ 15 < q
  · have H := Lib.hid h; clear h
    go_enter Tryd.func9, Tryd.ntmps9
    go_wp2_with (go_at_call 20; refine (l1In_no _ _ _ _ (by have := H.out; omega)).mono ?_; rintro e w' ⟨rfl, rfl⟩)
    go_ret
    exact ⟨ret_int (stepOf_out q H.out).symm, Below.refl _ _⟩
  · obtain ⟨k, rfl⟩ := Int.eq_ofNat_of_zero_le (a := q) (by omega)
    have hk : k < 16 := by omega
    clear h
    go_enter Tryd.func9, Tryd.ntmps9
    go_wp2_with (go_at_call 20; refine (l1In_yes _ _ _ _ (by omega) (by omega)).mono ?_; rintro e w' ⟨rfl, rfl⟩)
    go_ret
    exact ⟨congrArg Ending.returned ((tab_get k hk).trans (by rw [stepOf_in k hk])), (Below.refl _ _).alloc (Nat.le_refl _) _⟩

/-- The table of the steps lies in memory as the program's text lays it. -/
def HasTab (w : World) : Prop := ∀ i, i < 16 → w.cell? ⟨0, i, none⟩ = some (.int .i64 (stepN i))
theorem HasTab.below {B : Nat} {w w' : World} (h : HasTab w) (hb : Below B w w') (hB : 0 < B) : HasTab w' := fun i hi => (hb.cell (p := ⟨0, i, none⟩) hB).trans (h i hi)
theorem HasTab.size {w : World} (h : HasTab w) : 0 < w.heap.size := by
  have h0 := h 0 (by decide)
  apply Classical.byContradiction
  intro hn
  rw [World.cell?, Array.getElem?_eq_none (by simpa using hn)] at h0
  simp at h0
theorem iQuantStep_any (q : Int) (w : World) (ht : HasTab w) :
    Calls Tryd.prog 10 #[.int .i64 q] w fun e w' => e = .returned (.int .i64 (stepOf q)) ∧ w = w' := by
  by_cases h : q < 0 ∨ 15 < q
  · have H := Lib.hid h; clear h ht
    go_enter Tryd.func10, Tryd.ntmps10
    go_wp2_with (go_at_call 21; refine (qualityValid_no _ _ (by have := H.out; omega)).mono ?_; rintro e w' ⟨rfl, rfl⟩)
    go_ret
    exact ⟨ret_int (stepOf_out q H.out).symm, rfl⟩
  · obtain ⟨k, rfl⟩ := Int.eq_ofNat_of_zero_le (a := q) (by omega)
    have hk : k < 16 := by omega
    have hc := ht k hk
    clear h ht
    go_enter Tryd.func10, Tryd.ntmps10
    go_wp2_with (go_at_call 21; refine (qualityValid_yes _ _ (by omega) (by omega)).mono ?_; rintro e w' ⟨rfl, rfl⟩)
    go_ret
    exact ⟨ret_int (stepOf_in k hk).symm, rfl⟩

theorem sDequantize_any (l q : Int) (w : World) :
    Calls Tryd.prog 11 #[.int .i64 l, .int .i64 q] w fun e w' => e = .returned (.int .i64 (deqI l q)) ∧ Below w.heap.size w w' := by
  by_cases h : l < -4080 ∨ 4080 < l
  · have H := Lib.hid h; clear h
    go_enter Tryd.func11, Tryd.ntmps11
    go_wp2_with (go_at_call 20; refine (l1In_no _ _ _ _ (by have := H.out; omega)).mono ?_; rintro e w' ⟨rfl, rfl⟩)
    go_ret
    exact ⟨ret_int (by unfold deqI; rw [if_pos (by have := H.out; omega)]), Below.refl _ _⟩
  · have h1 : -4080 ≤ l := by omega
    have h2 : l ≤ 4080 := by omega
    clear h
    by_cases h : q < 0 ∨ 15 < q
    · have H := Lib.hid h; clear h
      go_enter Tryd.func11, Tryd.ntmps11
      go_wp2_with fail
      refine (l1In_yes _ _ _ _ (by omega) (by omega)).mono ?_; rintro e w' ⟨rfl, rfl⟩
      go_wp2_with fail
      refine (l1In_no _ _ _ _ (by have := H.out; omega)).mono ?_; rintro e w' ⟨rfl, rfl⟩
      go_wp2_with fail
      go_ret
      exact ⟨ret_int (by unfold deqI; rw [if_pos (by have := H.out; omega)]), Below.refl _ _⟩
    · have h3 : 0 ≤ q := by omega
      have h4 : q ≤ 15 := by omega
      clear h
      have hs := stepOf_bd q h3 h4
      have hm := mul_bd l (stepOf q) h1 h2 hs.1 hs.2
      go_enter Tryd.func11, Tryd.ntmps11
      go_wp2_with fail
      refine (l1In_yes _ _ _ _ (by omega) (by omega)).mono ?_; rintro e w' ⟨rfl, rfl⟩
      go_wp2_with fail
      refine (l1In_yes _ _ _ _ (by omega) (by omega)).mono ?_; rintro e w' ⟨rfl, rfl⟩
      go_wp2_with fail
      refine (sQuantStep_any _ _).mono ?_; rintro e w1 ⟨rfl, hb⟩
      go_wp2_with fail
      refine (l1Clip_any _ _ _ _ (by omega)).mono ?_; rintro e w' ⟨rfl, rfl⟩
      go_wp2_with fail
      go_ret
      exact ⟨ret_int (by unfold deqI; rw [if_neg (by omega)]), hb⟩

theorem iDequantize_any (l q : Int) (w : World) (ht : HasTab w) :
    Calls Tryd.prog 12 #[.int .i64 l, .int .i64 q] w fun e w' => e = .returned (.int .i64 (deqI l q)) ∧ w = w' := by
  by_cases h : q < 0 ∨ 15 < q
  · have H := Lib.hid h; clear h ht
    go_enter Tryd.func12, Tryd.ntmps12
    go_wp2_with (go_at_call 21; refine (qualityValid_no _ _ (by have := H.out; omega)).mono ?_; rintro e w' ⟨rfl, rfl⟩)
    go_ret
    exact ⟨ret_int (by unfold deqI; rw [if_pos (by have := H.out; omega)]), rfl⟩
  · have h3 : 0 ≤ q := by omega
    have h4 : q ≤ 15 := by omega
    clear h
    by_cases h1 : l < -4080
    · clear ht
      go_enter Tryd.func12, Tryd.ntmps12
      go_wp2_with (go_at_call 21; refine (qualityValid_yes _ _ (by omega) (by omega)).mono ?_; rintro e w' ⟨rfl, rfl⟩)
      go_ret
      exact ⟨ret_int (by unfold deqI; rw [if_pos (by omega)]), rfl⟩
    · by_cases h2 : 4080 < l
      · clear ht
        go_enter Tryd.func12, Tryd.ntmps12
        go_wp2_with (go_at_call 21; refine (qualityValid_yes _ _ (by omega) (by omega)).mono ?_; rintro e w' ⟨rfl, rfl⟩)
        go_ret
        exact ⟨ret_int (by unfold deqI; rw [if_pos (by omega)]), rfl⟩
      · obtain ⟨k, rfl⟩ := Int.eq_ofNat_of_zero_le (a := q) (by omega)
        have hk : k < 16 := by omega
        have hc := ht k hk
        have hs := stepN_bd k hk
        have hm := mul_bd l (stepN k) (by omega) (by omega) hs.1 hs.2
        clear ht
        go_enter Tryd.func12, Tryd.ntmps12
        go_wp2_with fail
        refine (qualityValid_yes _ _ (by omega) (by omega)).mono ?_; rintro e w' ⟨rfl, rfl⟩
        go_wp2_with fail
        refine (clamp_any _ _ _ _ (by omega)).mono ?_; rintro e w' ⟨rfl, rfl⟩
        go_wp2_with fail
        go_ret
        exact ⟨ret_int (by unfold deqI; rw [if_neg (by omega), stepOf_in k hk]), rfl⟩

theorem l4Quant_any (c q : Int) (w : World) (h1 : -4080 ≤ c) (h2 : c ≤ 4080) (h3 : 0 ≤ q) (h4 : q ≤ 15) :
    Calls Tryd.prog 24 #[.int .i64 c, .int .i64 q] w fun e w' => e = .returned (.int .i64 (quaI c (stepOf q))) ∧ Below w.heap.size w w' := by
  have hs := stepOf_bd q h3 h4
  by_cases hc : c < 0
  all_goals
    go_enter Tryd.func24, Tryd.ntmps24
    go_wp2_with fail
    refine (sQuantStep_any _ _).mono ?_; rintro e w1 ⟨rfl, hb⟩
    go_wp2_with fail
    all_goals go_ret
    all_goals exact ⟨ret_int (by first | exact quaI_neg c _ hc (by omega) hs | exact quaI_pos c _ (by omega)), hb⟩

theorem sQuantize_any (c q : Int) (w : World) :
    Calls Tryd.prog 13 #[.int .i64 c, .int .i64 q] w fun e w' => e = .returned (.int .i64 (quantI c q)) ∧ Below w.heap.size w w' := by
  by_cases h : c < -4080 ∨ 4080 < c
  · have H := Lib.hid h; clear h
    go_enter Tryd.func13, Tryd.ntmps13
    go_wp2_with (go_at_call 20; refine (l1In_no _ _ _ _ (by have := H.out; omega)).mono ?_; rintro e w' ⟨rfl, rfl⟩)
    go_ret
    exact ⟨ret_int (by unfold quantI; rw [if_pos (by have := H.out; omega)]), Below.refl _ _⟩
  · have h1 : -4080 ≤ c := by omega
    have h2 : c ≤ 4080 := by omega
    clear h
    by_cases h : q < 0 ∨ 15 < q
    · have H := Lib.hid h; clear h
      go_enter Tryd.func13, Tryd.ntmps13
      go_wp2_with fail
      refine (l1In_yes _ _ _ _ (by omega) (by omega)).mono ?_; rintro e w' ⟨rfl, rfl⟩
      go_wp2_with fail
      refine (l1In_no _ _ _ _ (by have := H.out; omega)).mono ?_; rintro e w' ⟨rfl, rfl⟩
      go_wp2_with fail
      go_ret
      exact ⟨ret_int (by unfold quantI; rw [if_pos (by have := H.out; omega)]), Below.refl _ _⟩
    · have h3 : 0 ≤ q := by omega
      have h4 : q ≤ 15 := by omega
      clear h
      go_enter Tryd.func13, Tryd.ntmps13
      go_wp2_with fail
      refine (l1In_yes _ _ _ _ (by omega) (by omega)).mono ?_; rintro e w' ⟨rfl, rfl⟩
      go_wp2_with fail
      refine (l1In_yes _ _ _ _ (by omega) (by omega)).mono ?_; rintro e w' ⟨rfl, rfl⟩
      go_wp2_with fail
      refine (l4Quant_any _ _ _ h1 h2 h3 h4).mono ?_; rintro e w1 ⟨rfl, hb⟩
      go_wp2_with fail
      go_ret
      exact ⟨ret_int (by unfold quantI; rw [if_neg (by omega)]), hb⟩

theorem iQuantize_any (c q : Int) (w : World) (ht : HasTab w) :
    Calls Tryd.prog 14 #[.int .i64 c, .int .i64 q] w fun e w' => e = .returned (.int .i64 (quantI c q)) ∧ Below w.heap.size w w' := by
  by_cases h : q < 0 ∨ 15 < q
  · have H := Lib.hid h; clear h ht
    go_enter Tryd.func14, Tryd.ntmps14
    go_wp2_with (go_at_call 21; refine (qualityValid_no _ _ (by have := H.out; omega)).mono ?_; rintro e w' ⟨rfl, rfl⟩)
    go_ret
    exact ⟨ret_int (by unfold quantI; rw [if_pos (by have := H.out; omega)]), Below.refl _ _⟩
  · have h3 : 0 ≤ q := by omega
    have h4 : q ≤ 15 := by omega
    clear h
    by_cases h1 : c < -4080
    · clear ht
      go_enter Tryd.func14, Tryd.ntmps14
      go_wp2_with (go_at_call 21; refine (qualityValid_yes _ _ (by omega) (by omega)).mono ?_; rintro e w' ⟨rfl, rfl⟩)
      go_ret
      exact ⟨ret_int (by unfold quantI; rw [if_pos (by omega)]), Below.refl _ _⟩
    · by_cases h2 : 4080 < c
      · clear ht
        go_enter Tryd.func14, Tryd.ntmps14
        go_wp2_with (go_at_call 21; refine (qualityValid_yes _ _ (by omega) (by omega)).mono ?_; rintro e w' ⟨rfl, rfl⟩)
        go_ret
        exact ⟨ret_int (by unfold quantI; rw [if_pos (by omega)]), Below.refl _ _⟩
      · obtain ⟨k, rfl⟩ := Int.eq_ofNat_of_zero_le (a := q) (by omega)
        have hk : k < 16 := by omega
        have hc := ht k hk
        have hs := stepN_bd k hk
        have ha : 0 ≤ absI c ∧ absI c ≤ 4080 := by unfold absI; omega
        have hr : 0 ≤ roundI (absI c) (stepN k) ∧ roundI (absI c) (stepN k) ≤ 9000 := by
          unfold roundI
          have := IntWalk.tdiv_le (2 * absI c + stepN k) (2 * stepN k) (by omega) (by omega)
          omega
        clear ht
        have hk1 : (k : Int) < 16 := by omega
        have hk0 : (0 : Int) ≤ k := by omega
        by_cases hn : c < 0
        all_goals
          go_enter Tryd.func14, Tryd.ntmps14
          go_wp2_with fail
          refine (qualityValid_yes _ _ (by omega) (by omega)).mono ?_; rintro e w' ⟨rfl, rfl⟩
          go_wp2_with fail
          go_quiet (first | (go_at_call 26; exact quietL (iabs_any _ _ (by omega) (by omega))) | (go_at_call 25; exact quietL (rounded_any _ _ _ (by omega) (by omega) (by omega) (by omega))))
          go_wp2_with fail
          go_ret
          exact ⟨ret_int (by unfold quantI; rw [if_neg (by omega), stepOf_in k hk]; unfold quaI roundI; first | rw [if_pos hn] | rw [if_neg (by omega)]), below_drewN (Below.refl _ _) _⟩

end Go.Proofs.YthehnbdkeecibaaDoor
