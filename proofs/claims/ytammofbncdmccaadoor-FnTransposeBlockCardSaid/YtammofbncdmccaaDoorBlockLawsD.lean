/- The walks of the laws on blocks whose argument is a code to draw from. -/
import Derived.Test.YtammofbncdmccaaDoorDrawBlock3
import Derived.Test.YtammofbncdmccaaDoorBlockMath
import Derived.Deep.RegionHeld3
namespace Go.Proofs.YtammofbncdmccaaDoor
open Go.RowKit

theorem code_no {b : Nat → Int} {q : Int} (h : okB b 255 = false) : ∀ k, codeI b q k = 0 := fun k => by unfold codeI; rw [h]; rfl
theorem code_noq {b : Nat → Int} {q : Int} (h : q < 0 ∨ 15 < q) : ∀ k, codeI b q k = 0 := fun k => by unfold codeI qB; rw [decide_eq_false (by omega), Bool.and_false]; rfl
theorem code_ok {b : Nat → Int} {q : Int} (h : okB b 255 = true) (h0 : 0 ≤ q) (h1 : q ≤ 15) : ∀ k, codeI b q k = quaI (appI b k) (stepOf q) := fun k => by unfold codeI qB; rw [h, decide_eq_true ⟨h0, h1⟩]; rfl
theorem code_lev {b : Nat → Int} {q : Int} (h : okB b 255 = true) (h0 : 0 ≤ q) (h1 : q ≤ 15) : okB (codeI b q) 4080 = true := okB_true (fun k hk => by
  have hs := stepOf_bd q h0 h1
  have ha := appI_bd (okB_out h) k hk
  rw [code_ok h h0 h1]
  exact (qua_err _ _ ha.1 ha.2 hs.1 hs.2).2.2)
theorem dec_code {b : Nat → Int} {q : Int} (h : okB b 255 = true) (h0 : 0 ≤ q) (h1 : q ≤ 15) : ∀ k, k < 16 → decI (codeI b q) q k = rnd16 (appI (deqB (codeI b q) q) k) := fun k _ => by
  unfold decI qB; rw [code_lev h h0 h1, decide_eq_true ⟨h0, h1⟩]; rfl
theorem deq_err {b : Nat → Int} {q : Int} (h : okB b 255 = true) (h0 : 0 ≤ q) (h1 : q ≤ 15) : ∀ k, k < 16 → 2 * (deqB (codeI b q) q k - appI b k) ≤ stepOf q ∧ -stepOf q ≤ 2 * (deqB (codeI b q) q k - appI b k) := fun k hk => by
  have hs := stepOf_bd q h0 h1
  have ha := appI_bd (okB_out h) k hk
  have := qua_err (appI b k) (stepOf q) ha.1 ha.2 hs.1 hs.2
  unfold deqB
  rw [code_ok h h0 h1]
  exact ⟨this.1, this.2.1⟩
theorem code_err {b : Nat → Int} {q : Int} (h : okB b 255 = true) (h0 : 0 ≤ q) (h1 : q ≤ 15) : enerTo (fun i => decI (codeI b q) q i - b i) 16 ≤ 4 * stepOf q * stepOf q + 16 :=
  block_err b (deqB (codeI b q) q) (decI (codeI b q) q) (stepOf q) (deq_err h h0 h1) (dec_code h h0 h1)
theorem code_zero {b : Nat → Int} (h : okB b 255 = true) : ∀ k, k < 16 → decI (codeI b 0) 0 k = b k := fun k hk => by
  rw [dec_code h (by omega) (by omega) k hk]
  have hs : stepOf 0 = 1 := rfl
  exact code0 b _ (fun j hj => by
    have := deq_err h (q := 0) (by omega) (by omega) j hj
    rw [hs] at this
    omega) k hk
theorem dec_bd (l : Nat → Int) (q : Int) : ∀ k, k < 16 → -4080 ≤ decI l q k ∧ decI l q k ≤ 4080 := fun k hk => by
  unfold decI
  have := appI_bd (deqB_bd l q) k hk
  split
  · unfold rnd16; omega
  · omega
theorem dec_zero (q : Int) : ∀ k, k < 16 → decI (fun _ => 0) q k = 0 := fun k hk => by
  unfold decI
  split
  · have hz : ∀ j, j < 16 → deqB (fun _ => 0) q j = (fun _ => (0 : Int)) j := fun j _ => by unfold deqB clampI; simp
    rw [app_congr hz, app_const 0 k hk]
    split <;> rfl
  · rfl
theorem okB_tr (b : Nat → Int) : okB (fun i => b (tr i)) 255 = okB b 255 := by
  cases h : okB b 255 with
  | true => exact okB_true (fun k hk => okB_out h (tr k) (tr_lt k hk))
  | false =>
    cases h2 : okB (fun i => b (tr i)) 255 with
    | false => rfl
    | true =>
      have : okB b 255 = true := okB_true (fun k hk => by have := okB_out h2 (tr k) (tr_lt k hk); simp only [tr_tr k hk] at this; exact this)
      rw [h] at this; cases this
theorem code_tr (b : Nat → Int) (q : Int) : ∀ k, k < 16 → codeI (fun i => b (tr i)) q (tr k) = codeI b q k := fun k hk => by
  unfold codeI
  rw [okB_tr, app_tr b (tr k) (tr_lt k hk), tr_tr k hk]

theorem sq_le2 (x : Int) (h1 : -4400 ≤ x) (h2 : x ≤ 4400) : 0 ≤ x * x ∧ x * x ≤ 19360000 := by
  have h : x.natAbs ≤ 4400 := by omega
  have e : x * x = ((x.natAbs * x.natAbs : Nat) : Int) := by rw [Int.natAbs_mul_self]
  have := Nat.mul_le_mul h h
  omega
theorem en_bd (f : Nat → Int) : ∀ k, (∀ j, j < k → -4400 ≤ f j ∧ f j ≤ 4400) → 0 ≤ enerTo f k ∧ enerTo f k ≤ 19360000 * k
  | 0, _ => by simp [enerTo]
  | k + 1, h => by
    have a := en_bd f k (fun j hj => h j (by omega))
    have c := sq_le2 (f k) (h k (by omega)).1 (h k (by omega)).2
    simp only [enerTo]
    omega
set_option maxRecDepth 100000 in
set_option maxHeartbeats 4000000 in
theorem FnCodeBlock_walk (a : Option Addr) (len cap : Nat) (zs : List Int) (w : World) (h : IsRow .u8 w a len cap zs) (ht : HasTab w) :
    Calls Tryd.prog 3 #[.slice a len cap] w fun e w' => e = .returned (.bool true) ∧ Below w.heap.size w w' := by
  obtain ⟨hs, hm⟩ := h.bytes
  unfold maxLen at hm
  clear h
  by_cases hl : 1048576 < len
  · clear hs ht
    go_enter Tryd.func3, Tryd.ntmps3
    go_wp2
    go_ret
    exact ⟨rfl, Below.refl _ _⟩
  · have HS := Lib.hid hs; clear hs
    have HB := Lib.hid (Below.refl w.heap.size w)
    have HT := Lib.hid ht; clear ht
    go_enter Tryd.func3, Tryd.ntmps3
    go_wp2_with fail
    refine (DrawCodeBlock_any _ len _ _ HS.out (by omega)).mono ?_; rintro e w1 ⟨b, q, rfl, HWi, q0, q1, hw1⟩
    have zw1 : w.heap.size ≤ w1.heap.size := hw1.size
    replace HB := Lib.hid (HB.out.trans (hw1.mono (by omega)))
    replace HT := Lib.hid (HT.out.below (hw1) HT.out.size)
    clear hw1
    have HN := Lib.hid (show Blk (w1.alloc (.cells #[.int .i64 0, .int .i64 0, .int .i64 0, .int .i64 0, .int .i64 0, .int .i64 0, .int .i64 0, .int .i64 0, .int .i64 0, .int .i64 0, .int .i64 0, .int .i64 0, .int .i64 0, .int .i64 0, .int .i64 0, .int .i64 0] 23)) w1.heap.size 16 23 (fun _ => 0) by rw [← zero16]; exact Blk.new _ _ _ _)
    obtain ⟨w2, hw⟩ : ∃ w2, w2 = (w1.alloc (.cells #[.int .i64 0, .int .i64 0, .int .i64 0, .int .i64 0, .int .i64 0, .int .i64 0, .int .i64 0, .int .i64 0, .int .i64 0, .int .i64 0, .int .i64 0, .int .i64 0, .int .i64 0, .int .i64 0, .int .i64 0, .int .i64 0] 23)).setRow w1.heap.size (VN 16 (b)) := ⟨_, rfl⟩
    have hV : Blk w2 w1.heap.size 16 23 (b) := by rw [hw]; exact HN.out.setRow _
    have hw2 : Below w1.heap.size w1 w2 := by rw [hw]; exact below_setRow ((Below.refl _ _).alloc (Nat.le_refl _) _) (Nat.le_refl _) _
    have zw2 : w1.heap.size < w2.heap.size := by rw [hw]; simp
    have HW := Lib.hid hw; clear hw
    replace HB := Lib.hid (HB.out.trans (hw2.mono (by omega)))
    replace HT := Lib.hid (HT.out.below (hw2) HT.out.size)
    have Vb := Lib.hid hV; clear hV hw2
    go_wp2_with (first | (refine store16 w1.heap.size _ HN.out rfl rfl rfl rfl ?_; rw [← HW.out]) | refine load16 (w1.heap.size) Vb.out rfl rfl rfl ?_)
    clear HW HN
    refine (iCode_any _ _ _ HT.out).mono ?_; rintro e w3 ⟨rfl, hw3⟩
    have zw3 : w2.heap.size ≤ w3.heap.size := hw3.size
    replace HB := Lib.hid (HB.out.trans (hw3.mono (by omega)))
    replace HT := Lib.hid (HT.out.below (hw3) HT.out.size)
    replace Vb := Lib.hid (Vb.out.below hw3 (by omega))
    clear hw3
    have HN := Lib.hid (show Blk (w3.alloc (.cells #[.int .i64 0, .int .i64 0, .int .i64 0, .int .i64 0, .int .i64 0, .int .i64 0, .int .i64 0, .int .i64 0, .int .i64 0, .int .i64 0, .int .i64 0, .int .i64 0, .int .i64 0, .int .i64 0, .int .i64 0, .int .i64 0] 23)) w3.heap.size 16 23 (fun _ => 0) by rw [← zero16]; exact Blk.new _ _ _ _)
    obtain ⟨w4, hw⟩ : ∃ w4, w4 = (w3.alloc (.cells #[.int .i64 0, .int .i64 0, .int .i64 0, .int .i64 0, .int .i64 0, .int .i64 0, .int .i64 0, .int .i64 0, .int .i64 0, .int .i64 0, .int .i64 0, .int .i64 0, .int .i64 0, .int .i64 0, .int .i64 0, .int .i64 0] 23)).setRow w3.heap.size (VN 16 (codeI b q)) := ⟨_, rfl⟩
    have hV : Blk w4 w3.heap.size 16 23 (codeI b q) := by rw [hw]; exact HN.out.setRow _
    have hw4 : Below w3.heap.size w3 w4 := by rw [hw]; exact below_setRow ((Below.refl _ _).alloc (Nat.le_refl _) _) (Nat.le_refl _) _
    have zw4 : w3.heap.size < w4.heap.size := by rw [hw]; simp
    have HW := Lib.hid hw; clear hw
    replace HB := Lib.hid (HB.out.trans (hw4.mono (by omega)))
    replace HT := Lib.hid (HT.out.below (hw4) HT.out.size)
    replace Vb := Lib.hid (Vb.out.below hw4 (by omega))
    have Vc := Lib.hid hV; clear hV hw4
    go_wp2_with (refine store16 w3.heap.size _ HN.out rfl rfl rfl rfl ?_; rw [← HW.out])
    clear HW HN
    have he : ∀ w, (Op.equalIn 10000 23 (.agg (VN 16 (codeI b q))) (.agg (VN 16 (codeI b q)))).run Tryd.prog w = .ok true w := fun w => by rw [run_equal16, eqB_true (fun _ _ => rfl)]
    refine wp_region_held_drew (S := fun w' => Below w4.heap.size w4 w') (by kernel_rfl) (Below.refl _ _).drew (fun hw5 => ?_)
    have Vb0 := Vb
    have Vc0 := Vc
    generalize w4.drew = w5 at hw5 ⊢
    have zw5 : w4.heap.size ≤ w5.heap.size := hw5.size
    replace HB := Lib.hid (HB.out.trans (hw5.mono (by omega)))
    replace HT := Lib.hid (HT.out.below (hw5) HT.out.size)
    replace Vb := Lib.hid (Vb.out.below hw5 (by omega))
    replace Vc := Lib.hid (Vc.out.below hw5 (by omega))
    refine wpAnyH_take (i := 0) (v := .agg (VN 16 (codeI b q))) rfl (by kernel_rfl) (by kernel_rfl) (by kernel_rfl) (fun _ _ _ h => h) (yields16' (w3.heap.size) (fun _ h => Vc0.out.below h (by omega)) (by rfl) rfl rfl) hw5 ?_
    refine wpAnyH_take (i := 1) (v := .agg (VN 16 (b))) rfl (by kernel_rfl) (by kernel_rfl) (by kernel_rfl) (fun _ _ _ h => h) (yields16' (w1.heap.size) (fun _ h => Vb0.out.below h (by omega)) (by rfl) rfl rfl) hw5 ?_
    refine wpAnyH_take (i := 2) (v := .int .i64 q) rfl (by kernel_rfl) (by kernel_rfl) (by kernel_rfl) (fun _ _ _ h => h) (Or.inl ⟨by rfl, fun w' _ => by go_simp⟩) hw5 ?_
    refine wpAnyH_ready (rs := [3]) (by kernel_rfl) (by simp) ?_
    refine AllReadyH.cons rfl (fun K hK => ?_) AllReadyH.nil
    go_simp
    refine (sCode_any _ _ _).mono ?_; rintro e w6 ⟨rfl, hw6⟩
    have zw6 : w5.heap.size ≤ w6.heap.size := hw6.size
    replace HB := Lib.hid (HB.out.trans (hw6.mono (by omega)))
    replace HT := Lib.hid (HT.out.below (hw6) HT.out.size)
    replace Vb := Lib.hid (Vb.out.below hw6 (by omega))
    replace Vc := Lib.hid (Vc.out.below hw6 (by omega))
    refine hK.out _ _ (hw5.trans (hw6.mono (by omega))) (fun Hw6 => ?_)
    clear hK K hw6 hw5
    refine wpAnyH_ready (rs := [4]) (by kernel_rfl) (by simp) ?_
    refine AllReadyH.cons rfl (fun K hK => ?_) AllReadyH.nil
    go_simp
    refine hK.out _ _ Hw6 (fun _ => ?_)
    clear hK K
    refine wpAnyH_done (by kernel_rfl) ?_ _
    clear Vb0
    clear Vc0
    clear Hw6
    clear he
    go_wp2_with fail
    go_loop [6] (fun i => ∃ k : Nat, k ≤ 16 ∧ i = .int .i64 k ∧ Hid (∀ j, j < k → -255 ≤ b j ∧ b j ≤ 255)) (fun i => 16 - (intOf i).toNat)
    case atStart => exact ⟨0, by omega, rfl, fun j hj => absurd hj (by omega)⟩
    case round =>
      obtain ⟨k, hk, rfl, HJ⟩ := hrel
      by_cases hlt : k < 16
      · have c1 := Vb.out.cell k hlt
        have hbk := HWi.out k hlt
        by_cases hb : -255 ≤ b k ∧ b k ≤ 255
        · have ha : absI (b k) ≤ 255 := by unfold absI; omega
          have hb1 := hb.1
          have hb2 := hb.2
          clear hb
          go_wp2_with fail
          refine (labs_any _ _ (by omega) (by omega)).mono ?_; rintro e _ ⟨rfl, rfl⟩
          go_wp2_with fail
          go_round
          case rel => exact ⟨k + 1, by omega, by go_num, fun j hj => by by_cases e : j = k; (subst e; omega); exact HJ.out j (by omega)⟩
          case measure => simp [intOf]; omega
        · have ha : 255 < absI (b k) := by unfold absI; omega
          have hok : okB b 255 = false := okB_false k hlt (by omega)
          have he : ∀ w, (Op.equalIn 10000 23 (.agg (VN 16 (codeI b q))) (.agg #[.int .i64 0, .int .i64 0, .int .i64 0, .int .i64 0, .int .i64 0, .int .i64 0, .int .i64 0, .int .i64 0, .int .i64 0, .int .i64 0, .int .i64 0, .int .i64 0, .int .i64 0, .int .i64 0, .int .i64 0, .int .i64 0])).run Tryd.prog w = .ok true w := fun w => by rw [run_equal16z, eqB_true (fun k _ => code_no hok k)]
          clear hok hb
          go_wp2_with fail
          refine (labs_any _ _ (by omega) (by omega)).mono ?_; rintro e _ ⟨rfl, rfl⟩
          go_wp2_with (refine load16 w3.heap.size Vc.out rfl rfl rfl ?_)
          refine (alive_any _).mono ?_; rintro e w7 ⟨rfl, hw7⟩
          go_wp2_with fail
          go_ret
          exact ⟨rfl, HB.out.trans (hw7.mono HB.out.size)⟩
      · have hok : okB b 255 = true := okB_true (fun j hj => HJ.out j (by omega))
        have HO := Lib.hid hok; clear hok
        have he : ∀ w, (Op.equalIn 10000 23 (.agg (VN 16 (decI (codeI b 0) 0))) (.agg (VN 16 (b)))).run Tryd.prog w = .ok true w := fun w => by rw [run_equal16, eqB_true (code_zero HO.out)]
        go_wp2_with fail
        refine wp_region_held_drew (S := fun w' => Below w6.heap.size w6 w') (by kernel_rfl) (Below.refl _ _).drew (fun hw8 => ?_)
        have Vb0 := Vb
        have Vc0 := Vc
        generalize w6.drew = w8 at hw8 ⊢
        have zw8 : w6.heap.size ≤ w8.heap.size := hw8.size
        replace HB := Lib.hid (HB.out.trans (hw8.mono (by omega)))
        replace HT := Lib.hid (HT.out.below (hw8) HT.out.size)
        replace Vb := Lib.hid (Vb.out.below hw8 (by omega))
        replace Vc := Lib.hid (Vc.out.below hw8 (by omega))
        refine wpAnyH_take (i := 0) (v := .agg (VN 16 (b))) rfl (by kernel_rfl) (by kernel_rfl) (by kernel_rfl) (fun _ _ _ h => h) (yields16' (w1.heap.size) (fun _ h => Vb0.out.below h (by omega)) (by rfl) rfl rfl) hw8 ?_
        refine wpAnyH_take (i := 3) (v := .agg (VN 16 (b))) rfl (by kernel_rfl) (by kernel_rfl) (by kernel_rfl) (fun _ _ _ h => h) (yields16' (w1.heap.size) (fun _ h => Vb0.out.below h (by omega)) (by rfl) rfl rfl) hw8 ?_
        refine wpAnyH_ready (rs := [1]) (by kernel_rfl) (by simp) ?_
        refine AllReadyH.cons rfl (fun K hK => ?_) AllReadyH.nil
        go_simp
        refine (iCode_any _ _ _ HT.out).mono ?_; rintro e w9 ⟨rfl, hw9⟩
        have zw9 : w8.heap.size ≤ w9.heap.size := hw9.size
        replace HB := Lib.hid (HB.out.trans (hw9.mono (by omega)))
        replace HT := Lib.hid (HT.out.below (hw9) HT.out.size)
        replace Vb := Lib.hid (Vb.out.below hw9 (by omega))
        replace Vc := Lib.hid (Vc.out.below hw9 (by omega))
        refine hK.out _ _ (hw8.trans (hw9.mono (by omega))) (fun Hw9 => ?_)
        clear hK K hw9 hw8
        refine wpAnyH_ready (rs := [2]) (by kernel_rfl) (by simp) ?_
        refine AllReadyH.cons rfl (fun K hK => ?_) AllReadyH.nil
        go_simp
        refine (iDecode_any _ _ _ HT.out).mono ?_; rintro e w10 ⟨rfl, hw10⟩
        have zw10 : w9.heap.size ≤ w10.heap.size := hw10.size
        replace HB := Lib.hid (HB.out.trans (hw10.mono (by omega)))
        replace HT := Lib.hid (HT.out.below (hw10) HT.out.size)
        replace Vb := Lib.hid (Vb.out.below hw10 (by omega))
        replace Vc := Lib.hid (Vc.out.below hw10 (by omega))
        refine hK.out _ _ (Hw9.trans (hw10.mono (by omega))) (fun Hw10 => ?_)
        clear hK K hw10 Hw9
        refine wpAnyH_ready (rs := [4]) (by kernel_rfl) (by simp) ?_
        refine AllReadyH.cons rfl (fun K hK => ?_) AllReadyH.nil
        go_simp
        refine hK.out _ _ Hw10 (fun _ => ?_)
        clear hK K
        refine wpAnyH_done (by kernel_rfl) ?_ _
        clear Vb0
        clear Vc0
        clear Hw10
        clear he
        by_cases hq : q < 0 ∨ 15 < q
        · have HQ := Lib.hid hq
          have he : ∀ w, (Op.equalIn 10000 23 (.agg (VN 16 (codeI b q))) (.agg #[.int .i64 0, .int .i64 0, .int .i64 0, .int .i64 0, .int .i64 0, .int .i64 0, .int .i64 0, .int .i64 0, .int .i64 0, .int .i64 0, .int .i64 0, .int .i64 0, .int .i64 0, .int .i64 0, .int .i64 0, .int .i64 0])).run Tryd.prog w = .ok true w := fun w => by rw [run_equal16z, eqB_true (fun k _ => code_noq HQ.out k)]
          by_cases h0 : q < 0
          · clear hq
            go_wp2_with (refine load16 w3.heap.size Vc.out rfl rfl rfl ?_)
            go_ret
            exact ⟨rfl, HB.out⟩
          · have h1 : 15 < q := by omega
            clear hq
            go_wp2_with (refine load16 w3.heap.size Vc.out rfl rfl rfl ?_)
            go_ret
            exact ⟨rfl, HB.out⟩
        · have h0 : 0 ≤ q := by omega
          have h1 : q ≤ 15 := by omega
          clear hq
          go_wp2_with (refine load16 w3.heap.size Vc.out rfl rfl rfl ?_)
          refine (iDecode_any _ _ _ HT.out).mono ?_; rintro e w11 ⟨rfl, hw11⟩
          have zw11 : w10.heap.size ≤ w11.heap.size := hw11.size
          replace HB := Lib.hid (HB.out.trans (hw11.mono (by omega)))
          replace HT := Lib.hid (HT.out.below (hw11) HT.out.size)
          replace Vb := Lib.hid (Vb.out.below hw11 (by omega))
          replace Vc := Lib.hid (Vc.out.below hw11 (by omega))
          clear hw11
          have HN := Lib.hid (show Blk (w11.alloc (.cells #[.int .i64 0, .int .i64 0, .int .i64 0, .int .i64 0, .int .i64 0, .int .i64 0, .int .i64 0, .int .i64 0, .int .i64 0, .int .i64 0, .int .i64 0, .int .i64 0, .int .i64 0, .int .i64 0, .int .i64 0, .int .i64 0] 23)) w11.heap.size 16 23 (fun _ => 0) by rw [← zero16]; exact Blk.new _ _ _ _)
          obtain ⟨w12, hw⟩ : ∃ w12, w12 = (w11.alloc (.cells #[.int .i64 0, .int .i64 0, .int .i64 0, .int .i64 0, .int .i64 0, .int .i64 0, .int .i64 0, .int .i64 0, .int .i64 0, .int .i64 0, .int .i64 0, .int .i64 0, .int .i64 0, .int .i64 0, .int .i64 0, .int .i64 0] 23)).setRow w11.heap.size (VN 16 (decI (codeI b q) q)) := ⟨_, rfl⟩
          have hV : Blk w12 w11.heap.size 16 23 (decI (codeI b q) q) := by rw [hw]; exact HN.out.setRow _
          have hw12 : Below w11.heap.size w11 w12 := by rw [hw]; exact below_setRow ((Below.refl _ _).alloc (Nat.le_refl _) _) (Nat.le_refl _) _
          have zw12 : w11.heap.size < w12.heap.size := by rw [hw]; simp
          have HW := Lib.hid hw; clear hw
          replace HB := Lib.hid (HB.out.trans (hw12.mono (by omega)))
          replace HT := Lib.hid (HT.out.below (hw12) HT.out.size)
          replace Vb := Lib.hid (Vb.out.below hw12 (by omega))
          replace Vc := Lib.hid (Vc.out.below hw12 (by omega))
          have Vx := Lib.hid hV; clear hV hw12
          go_wp2_with (refine store16 w11.heap.size _ HN.out rfl rfl rfl rfl ?_; rw [← HW.out])
          clear HW HN
          have HE := Lib.hid (code_err HO.out h0 h1)
          have HD := Lib.hid (dec_bd (codeI b q) q)
          generalize hx : decI (codeI b q) q = x at *
          clear hx
          have HI := Lib.hid (okB_out HO.out)
          have HEB := Lib.hid (fun k (hk : k ≤ 16) => en_bd (fun i => x i - b i) k (fun j hj => by have := HD.out j (by omega); have := HI.out j (by omega); omega))
          go_loopw [8, 9] (fun s i wr => ∃ j m : Nat, j ≤ 16 ∧ i = .int .i64 j ∧ s = .int .i64 (enerTo (fun i => x i - b i) j) ∧ wr = w12.drewN m) (fun _ i _ => 16 - (intOf i).toNat)
          case atStart => exact ⟨0, 0, by omega, rfl, rfl, rfl⟩
          case round =>
            obtain ⟨j, m, hj, rfl, rfl, rfl⟩ := hrel
            have heb := HEB.out j hj
            by_cases hj16 : j < 16
            · have c1 := Vx.out.cell j hj16
              have c2 := Vb.out.cell j hj16
              have hj1 : (j : Int) < 16 := by omega
              have hj0 : (0 : Int) ≤ j := by omega
              have b1 := HD.out j hj16
              have b2 := HI.out j hj16
              have b3 := sq_le2 (x j - b j) (by omega) (by omega)
              have e1 : IntKind.i64.wrap (x j - b j) = x j - b j := IntWalk.i64_in _ (by omega)
              have e2 : IntKind.i64.wrap ((x j - b j) * (x j - b j)) = (x j - b j) * (x j - b j) := IntWalk.i64_in _ (by omega)
              have e3 : IntKind.i64.wrap (enerTo (fun i => x i - b i) j + (x j - b j) * (x j - b j)) = enerTo (fun i => x i - b i) j + (x j - b j) * (x j - b j) := IntWalk.i64_in _ (by omega)
              go_wp2_with fail
              go_quiet (fail)
              go_wp2_with fail
              go_roundw
              case rel => exact ⟨j + 1, _, by omega, by go_num, rfl, rfl⟩
              case measure => simp [intOf]; omega
            · have hs := stepOf_bd q h0 h1
              have hj16 : j = 16 := by omega
              have hle : enerTo (fun i => x i - b i) j ≤ 4 * stepOf q * stepOf q + 16 := by rw [hj16]; exact HE.out
              clear hj16
              have hss := sq_le2 (stepOf q) (by omega) (by omega)
              have hss2 : 0 ≤ 4 * stepOf q * stepOf q ∧ 4 * stepOf q * stepOf q ≤ 4000000 := by
                have e : 4 * stepOf q * stepOf q = 4 * (stepOf q * stepOf q) := Int.mul_assoc _ _ _
                have : stepOf q * stepOf q ≤ 512 * stepOf q := Int.mul_le_mul_of_nonneg_right hs.2 (by omega)
                omega
              go_wp2_with fail
              refine (iQuantStep_any _ _ (by exact HT.out)).mono ?_; rintro e _ ⟨rfl, rfl⟩
              go_wp2_with fail
              go_ret
              exact ⟨rfl, below_drewN HB.out m⟩

set_option maxRecDepth 100000 in
set_option maxHeartbeats 4000000 in
theorem FnDecodeBlock_walk (a : Option Addr) (len cap : Nat) (zs : List Int) (w : World) (h : IsRow .u8 w a len cap zs) (ht : HasTab w) :
    Calls Tryd.prog 4 #[.slice a len cap] w fun e w' => e = .returned (.bool true) ∧ Below w.heap.size w w' := by
  obtain ⟨hs, hm⟩ := h.bytes
  unfold maxLen at hm
  clear h
  by_cases hl : 1048576 < len
  · clear hs ht
    go_enter Tryd.func4, Tryd.ntmps4
    go_wp2
    go_ret
    exact ⟨rfl, Below.refl _ _⟩
  · have HS := Lib.hid hs; clear hs
    have HB := Lib.hid (Below.refl w.heap.size w)
    have HT := Lib.hid ht; clear ht
    go_enter Tryd.func4, Tryd.ntmps4
    go_wp2_with fail
    refine (DrawDecodeBlock_any _ len _ _ HS.out (by omega)).mono ?_; rintro e w1 ⟨b, q, rfl, q0, q1, hw1⟩
    have zw1 : w.heap.size ≤ w1.heap.size := hw1.size
    replace HB := Lib.hid (HB.out.trans (hw1.mono (by omega)))
    replace HT := Lib.hid (HT.out.below (hw1) HT.out.size)
    clear hw1
    have HN := Lib.hid (show Blk (w1.alloc (.cells #[.int .i64 0, .int .i64 0, .int .i64 0, .int .i64 0, .int .i64 0, .int .i64 0, .int .i64 0, .int .i64 0, .int .i64 0, .int .i64 0, .int .i64 0, .int .i64 0, .int .i64 0, .int .i64 0, .int .i64 0, .int .i64 0] 23)) w1.heap.size 16 23 (fun _ => 0) by rw [← zero16]; exact Blk.new _ _ _ _)
    obtain ⟨w2, hw⟩ : ∃ w2, w2 = (w1.alloc (.cells #[.int .i64 0, .int .i64 0, .int .i64 0, .int .i64 0, .int .i64 0, .int .i64 0, .int .i64 0, .int .i64 0, .int .i64 0, .int .i64 0, .int .i64 0, .int .i64 0, .int .i64 0, .int .i64 0, .int .i64 0, .int .i64 0] 23)).setRow w1.heap.size (VN 16 (b)) := ⟨_, rfl⟩
    have hV : Blk w2 w1.heap.size 16 23 (b) := by rw [hw]; exact HN.out.setRow _
    have hw2 : Below w1.heap.size w1 w2 := by rw [hw]; exact below_setRow ((Below.refl _ _).alloc (Nat.le_refl _) _) (Nat.le_refl _) _
    have zw2 : w1.heap.size < w2.heap.size := by rw [hw]; simp
    have HW := Lib.hid hw; clear hw
    replace HB := Lib.hid (HB.out.trans (hw2.mono (by omega)))
    replace HT := Lib.hid (HT.out.below (hw2) HT.out.size)
    have Vb := Lib.hid hV; clear hV hw2
    go_wp2_with (first | (refine store16 w1.heap.size _ HN.out rfl rfl rfl rfl ?_; rw [← HW.out]) | refine load16 (w1.heap.size) Vb.out rfl rfl rfl ?_)
    clear HW HN
    refine (iDecode_any _ _ _ HT.out).mono ?_; rintro e w3 ⟨rfl, hw3⟩
    have zw3 : w2.heap.size ≤ w3.heap.size := hw3.size
    replace HB := Lib.hid (HB.out.trans (hw3.mono (by omega)))
    replace HT := Lib.hid (HT.out.below (hw3) HT.out.size)
    replace Vb := Lib.hid (Vb.out.below hw3 (by omega))
    clear hw3
    have HN := Lib.hid (show Blk (w3.alloc (.cells #[.int .i64 0, .int .i64 0, .int .i64 0, .int .i64 0, .int .i64 0, .int .i64 0, .int .i64 0, .int .i64 0, .int .i64 0, .int .i64 0, .int .i64 0, .int .i64 0, .int .i64 0, .int .i64 0, .int .i64 0, .int .i64 0] 23)) w3.heap.size 16 23 (fun _ => 0) by rw [← zero16]; exact Blk.new _ _ _ _)
    obtain ⟨w4, hw⟩ : ∃ w4, w4 = (w3.alloc (.cells #[.int .i64 0, .int .i64 0, .int .i64 0, .int .i64 0, .int .i64 0, .int .i64 0, .int .i64 0, .int .i64 0, .int .i64 0, .int .i64 0, .int .i64 0, .int .i64 0, .int .i64 0, .int .i64 0, .int .i64 0, .int .i64 0] 23)).setRow w3.heap.size (VN 16 (decI b q)) := ⟨_, rfl⟩
    have hV : Blk w4 w3.heap.size 16 23 (decI b q) := by rw [hw]; exact HN.out.setRow _
    have hw4 : Below w3.heap.size w3 w4 := by rw [hw]; exact below_setRow ((Below.refl _ _).alloc (Nat.le_refl _) _) (Nat.le_refl _) _
    have zw4 : w3.heap.size < w4.heap.size := by rw [hw]; simp
    have HW := Lib.hid hw; clear hw
    replace HB := Lib.hid (HB.out.trans (hw4.mono (by omega)))
    replace HT := Lib.hid (HT.out.below (hw4) HT.out.size)
    replace Vb := Lib.hid (Vb.out.below hw4 (by omega))
    have Vc := Lib.hid hV; clear hV hw4
    go_wp2_with (refine store16 w3.heap.size _ HN.out rfl rfl rfl rfl ?_; rw [← HW.out])
    clear HW HN
    have he : ∀ w, (Op.equalIn 10000 23 (.agg (VN 16 (decI b q))) (.agg (VN 16 (decI b q)))).run Tryd.prog w = .ok true w := fun w => by rw [run_equal16, eqB_true (fun _ _ => rfl)]
    refine wp_region_held_drew (S := fun w' => Below w4.heap.size w4 w') (by kernel_rfl) (Below.refl _ _).drew (fun hw5 => ?_)
    have Vb0 := Vb
    have Vc0 := Vc
    generalize w4.drew = w5 at hw5 ⊢
    have zw5 : w4.heap.size ≤ w5.heap.size := hw5.size
    replace HB := Lib.hid (HB.out.trans (hw5.mono (by omega)))
    replace HT := Lib.hid (HT.out.below (hw5) HT.out.size)
    replace Vb := Lib.hid (Vb.out.below hw5 (by omega))
    replace Vc := Lib.hid (Vc.out.below hw5 (by omega))
    refine wpAnyH_take (i := 0) (v := .agg (VN 16 (decI b q))) rfl (by kernel_rfl) (by kernel_rfl) (by kernel_rfl) (fun _ _ _ h => h) (yields16' (w3.heap.size) (fun _ h => Vc0.out.below h (by omega)) (by rfl) rfl rfl) hw5 ?_
    refine wpAnyH_take (i := 1) (v := .agg (VN 16 (b))) rfl (by kernel_rfl) (by kernel_rfl) (by kernel_rfl) (fun _ _ _ h => h) (yields16' (w1.heap.size) (fun _ h => Vb0.out.below h (by omega)) (by rfl) rfl rfl) hw5 ?_
    refine wpAnyH_take (i := 2) (v := .int .i64 q) rfl (by kernel_rfl) (by kernel_rfl) (by kernel_rfl) (fun _ _ _ h => h) (Or.inl ⟨by rfl, fun w' _ => by go_simp⟩) hw5 ?_
    refine wpAnyH_ready (rs := [3]) (by kernel_rfl) (by simp) ?_
    refine AllReadyH.cons rfl (fun K hK => ?_) AllReadyH.nil
    go_simp
    refine (sDecode_any _ _ _).mono ?_; rintro e w6 ⟨rfl, hw6⟩
    have zw6 : w5.heap.size ≤ w6.heap.size := hw6.size
    replace HB := Lib.hid (HB.out.trans (hw6.mono (by omega)))
    replace HT := Lib.hid (HT.out.below (hw6) HT.out.size)
    replace Vb := Lib.hid (Vb.out.below hw6 (by omega))
    replace Vc := Lib.hid (Vc.out.below hw6 (by omega))
    refine hK.out _ _ (hw5.trans (hw6.mono (by omega))) (fun Hw6 => ?_)
    clear hK K hw6 hw5
    refine wpAnyH_ready (rs := [4]) (by kernel_rfl) (by simp) ?_
    refine AllReadyH.cons rfl (fun K hK => ?_) AllReadyH.nil
    go_simp
    refine hK.out _ _ Hw6 (fun _ => ?_)
    clear hK K
    refine wpAnyH_done (by kernel_rfl) ?_ _
    clear Vb0
    clear Vc0
    clear Hw6
    clear he
    have HD := Lib.hid (dec_bd b q)
    go_wp2_with fail
    go_loop [6] (fun i => ∃ k : Nat, k ≤ 16 ∧ i = .int .i64 k) (fun i => 16 - (intOf i).toNat)
    case atStart => exact ⟨0, by omega, rfl⟩
    case round =>
      obtain ⟨k, hk, rfl⟩ := hrel
      by_cases hlt : k < 16
      · have c1 := Vc.out.cell k hlt
        have hd := HD.out k hlt
        have ha : absI (decI b q k) ≤ 4080 := by unfold absI; omega
        go_wp2_with fail
        refine (labs_any _ _ (by omega) (by omega)).mono ?_; rintro e _ ⟨rfl, rfl⟩
        go_wp2_with fail
        go_round
        case rel => exact ⟨k + 1, by omega, by go_num⟩
        case measure => simp [intOf]; omega
      · go_wp2_with fail
        rw [← zero16]
        refine (iDecode_any _ _ _ HT.out).mono ?_; rintro e w7 ⟨rfl, hw7⟩
        have zw7 : w6.heap.size ≤ w7.heap.size := hw7.size
        replace HB := Lib.hid (HB.out.trans (hw7.mono (by omega)))
        replace HT := Lib.hid (HT.out.below (hw7) HT.out.size)
        replace Vb := Lib.hid (Vb.out.below hw7 (by omega))
        replace Vc := Lib.hid (Vc.out.below hw7 (by omega))
        clear hw7
        have he : ∀ w, (Op.equalIn 10000 23 (.agg (VN 16 (decI (fun _ => 0) q))) (.agg #[.int .i64 0, .int .i64 0, .int .i64 0, .int .i64 0, .int .i64 0, .int .i64 0, .int .i64 0, .int .i64 0, .int .i64 0, .int .i64 0, .int .i64 0, .int .i64 0, .int .i64 0, .int .i64 0, .int .i64 0, .int .i64 0])).run Tryd.prog w = .ok true w := fun w => by rw [run_equal16z, eqB_true (dec_zero q)]
        have he2 : ∀ w, (Op.equalIn 10000 23 (.agg (VN 16 (decI (fun _ => 0) q))) (.agg (VN 16 (fun _ => 0)))).run Tryd.prog w = .ok true w := fun w => by rw [run_equal16, eqB_true (dec_zero q)]
        go_wp2_with fail
        refine (alive_any _).mono ?_; rintro e w8 ⟨rfl, hw8⟩
        go_wp2_with fail
        go_ret
        exact ⟨rfl, HB.out.trans (hw8.mono HB.out.size)⟩

set_option maxRecDepth 100000 in
set_option maxHeartbeats 4000000 in
theorem FnTransposeBlock_walk (a : Option Addr) (len cap : Nat) (zs : List Int) (w : World) (h : IsRow .u8 w a len cap zs) (ht : HasTab w) :
    Calls Tryd.prog 5 #[.slice a len cap] w fun e w' => e = .returned (.bool true) ∧ Below w.heap.size w w' := by
  obtain ⟨hs, hm⟩ := h.bytes
  unfold maxLen at hm
  clear h
  by_cases hl : 1048576 < len
  · clear hs ht
    go_enter Tryd.func5, Tryd.ntmps5
    go_wp2
    go_ret
    exact ⟨rfl, Below.refl _ _⟩
  · have HS := Lib.hid hs; clear hs
    have HB := Lib.hid (Below.refl w.heap.size w)
    have HT := Lib.hid ht; clear ht
    have HTB := Lib.hid HT.out.size
    go_enter Tryd.func5, Tryd.ntmps5
    go_wp2_with fail
    refine (DrawCodeBlock_any _ len _ _ HS.out (by omega)).mono ?_; rintro e w1 ⟨b, q, rfl, HWi, q0, q1, hw1⟩
    have zw1 : w.heap.size ≤ w1.heap.size := hw1.size
    replace HB := Lib.hid (HB.out.trans (hw1.mono (by omega)))
    replace HT := Lib.hid (HT.out.below (hw1) HT.out.size)
    clear hw1
    have HN := Lib.hid (show Blk (w1.alloc (.cells #[.int .i64 0, .int .i64 0, .int .i64 0, .int .i64 0, .int .i64 0, .int .i64 0, .int .i64 0, .int .i64 0, .int .i64 0, .int .i64 0, .int .i64 0, .int .i64 0, .int .i64 0, .int .i64 0, .int .i64 0, .int .i64 0] 23)) w1.heap.size 16 23 (fun _ => 0) by rw [← zero16]; exact Blk.new _ _ _ _)
    obtain ⟨w2, hw⟩ : ∃ w2, w2 = (w1.alloc (.cells #[.int .i64 0, .int .i64 0, .int .i64 0, .int .i64 0, .int .i64 0, .int .i64 0, .int .i64 0, .int .i64 0, .int .i64 0, .int .i64 0, .int .i64 0, .int .i64 0, .int .i64 0, .int .i64 0, .int .i64 0, .int .i64 0] 23)).setRow w1.heap.size (VN 16 (b)) := ⟨_, rfl⟩
    have hV : Blk w2 w1.heap.size 16 23 (b) := by rw [hw]; exact HN.out.setRow _
    have hw2 : Below w1.heap.size w1 w2 := by rw [hw]; exact below_setRow ((Below.refl _ _).alloc (Nat.le_refl _) _) (Nat.le_refl _) _
    have zw2 : w1.heap.size < w2.heap.size := by rw [hw]; simp
    have HW := Lib.hid hw; clear hw
    replace HB := Lib.hid (HB.out.trans (hw2.mono (by omega)))
    replace HT := Lib.hid (HT.out.below (hw2) HT.out.size)
    have Vb := Lib.hid hV; clear hV hw2
    go_wp2_with (first | (refine store16 w1.heap.size _ HN.out rfl rfl rfl rfl ?_; rw [← HW.out]) | refine load16 (w1.heap.size) Vb.out rfl rfl rfl ?_)
    clear HW HN
    refine (iCode_any _ _ _ HT.out).mono ?_; rintro e w3 ⟨rfl, hw3⟩
    have zw3 : w2.heap.size ≤ w3.heap.size := hw3.size
    replace HB := Lib.hid (HB.out.trans (hw3.mono (by omega)))
    replace HT := Lib.hid (HT.out.below (hw3) HT.out.size)
    replace Vb := Lib.hid (Vb.out.below hw3 (by omega))
    clear hw3
    have HN := Lib.hid (show Blk (w3.alloc (.cells #[.int .i64 0, .int .i64 0, .int .i64 0, .int .i64 0, .int .i64 0, .int .i64 0, .int .i64 0, .int .i64 0, .int .i64 0, .int .i64 0, .int .i64 0, .int .i64 0, .int .i64 0, .int .i64 0, .int .i64 0, .int .i64 0] 23)) w3.heap.size 16 23 (fun _ => 0) by rw [← zero16]; exact Blk.new _ _ _ _)
    obtain ⟨w4, hw⟩ : ∃ w4, w4 = (w3.alloc (.cells #[.int .i64 0, .int .i64 0, .int .i64 0, .int .i64 0, .int .i64 0, .int .i64 0, .int .i64 0, .int .i64 0, .int .i64 0, .int .i64 0, .int .i64 0, .int .i64 0, .int .i64 0, .int .i64 0, .int .i64 0, .int .i64 0] 23)).setRow w3.heap.size (VN 16 (codeI b q)) := ⟨_, rfl⟩
    have hV : Blk w4 w3.heap.size 16 23 (codeI b q) := by rw [hw]; exact HN.out.setRow _
    have hw4 : Below w3.heap.size w3 w4 := by rw [hw]; exact below_setRow ((Below.refl _ _).alloc (Nat.le_refl _) _) (Nat.le_refl _) _
    have zw4 : w3.heap.size < w4.heap.size := by rw [hw]; simp
    have HW := Lib.hid hw; clear hw
    replace HB := Lib.hid (HB.out.trans (hw4.mono (by omega)))
    replace HT := Lib.hid (HT.out.below (hw4) HT.out.size)
    replace Vb := Lib.hid (Vb.out.below hw4 (by omega))
    have Vc := Lib.hid hV; clear hV hw4
    go_wp2_with (refine store16 w3.heap.size _ HN.out rfl rfl rfl rfl ?_; rw [← HW.out])
    clear HW HN
    have he : ∀ w, (Op.equalIn 10000 23 (.agg (VN 16 (codeI b q))) (.agg (VN 16 (codeI b q)))).run Tryd.prog w = .ok true w := fun w => by rw [run_equal16, eqB_true (fun _ _ => rfl)]
    refine wp_region_held_drew (S := fun w' => Below w4.heap.size w4 w') (by kernel_rfl) (Below.refl _ _).drew (fun hw5 => ?_)
    have Vb0 := Vb
    have Vc0 := Vc
    generalize w4.drew = w5 at hw5 ⊢
    have zw5 : w4.heap.size ≤ w5.heap.size := hw5.size
    replace HB := Lib.hid (HB.out.trans (hw5.mono (by omega)))
    replace HT := Lib.hid (HT.out.below (hw5) HT.out.size)
    replace Vb := Lib.hid (Vb.out.below hw5 (by omega))
    replace Vc := Lib.hid (Vc.out.below hw5 (by omega))
    refine wpAnyH_take (i := 0) (v := .agg (VN 16 (codeI b q))) rfl (by kernel_rfl) (by kernel_rfl) (by kernel_rfl) (fun _ _ _ h => h) (yields16' (w3.heap.size) (fun _ h => Vc0.out.below h (by omega)) (by rfl) rfl rfl) hw5 ?_
    refine wpAnyH_take (i := 1) (v := .agg (VN 16 (b))) rfl (by kernel_rfl) (by kernel_rfl) (by kernel_rfl) (fun _ _ _ h => h) (yields16' (w1.heap.size) (fun _ h => Vb0.out.below h (by omega)) (by rfl) rfl rfl) hw5 ?_
    refine wpAnyH_take (i := 2) (v := .int .i64 q) rfl (by kernel_rfl) (by kernel_rfl) (by kernel_rfl) (fun _ _ _ h => h) (Or.inl ⟨by rfl, fun w' _ => by go_simp⟩) hw5 ?_
    refine wpAnyH_ready (rs := [3]) (by kernel_rfl) (by simp) ?_
    refine AllReadyH.cons rfl (fun K hK => ?_) AllReadyH.nil
    go_simp
    refine (sCode_any _ _ _).mono ?_; rintro e w6 ⟨rfl, hw6⟩
    have zw6 : w5.heap.size ≤ w6.heap.size := hw6.size
    replace HB := Lib.hid (HB.out.trans (hw6.mono (by omega)))
    replace HT := Lib.hid (HT.out.below (hw6) HT.out.size)
    replace Vb := Lib.hid (Vb.out.below hw6 (by omega))
    replace Vc := Lib.hid (Vc.out.below hw6 (by omega))
    refine hK.out _ _ (hw5.trans (hw6.mono (by omega))) (fun Hw6 => ?_)
    clear hK K hw6 hw5
    refine wpAnyH_ready (rs := [4]) (by kernel_rfl) (by simp) ?_
    refine AllReadyH.cons rfl (fun K hK => ?_) AllReadyH.nil
    go_simp
    refine hK.out _ _ Hw6 (fun _ => ?_)
    clear hK K
    refine wpAnyH_done (by kernel_rfl) ?_ _
    clear Vb0
    clear Vc0
    clear Hw6
    clear he
    have HN := Lib.hid (show Blk (w6.alloc (.cells #[.int .i64 0, .int .i64 0, .int .i64 0, .int .i64 0, .int .i64 0, .int .i64 0, .int .i64 0, .int .i64 0, .int .i64 0, .int .i64 0, .int .i64 0, .int .i64 0, .int .i64 0, .int .i64 0, .int .i64 0, .int .i64 0] 23)) w6.heap.size 16 23 (fun _ => 0) by rw [← zero16]; exact Blk.new _ _ _ _)
    obtain ⟨w7, hw⟩ : ∃ w7, w7 = w6.alloc (.cells #[.int .i64 0, .int .i64 0, .int .i64 0, .int .i64 0, .int .i64 0, .int .i64 0, .int .i64 0, .int .i64 0, .int .i64 0, .int .i64 0, .int .i64 0, .int .i64 0, .int .i64 0, .int .i64 0, .int .i64 0, .int .i64 0] 23) := ⟨_, rfl⟩
    have hV : Blk w7 w6.heap.size 16 23 (fun _ => 0) := by rw [hw]; exact HN.out
    have hw7 : Below w6.heap.size w6 w7 := by rw [hw]; exact (Below.refl _ _).alloc (Nat.le_refl _) _
    have zw7 : w6.heap.size < w7.heap.size := by rw [hw]; simp
    have HW := Lib.hid hw; clear hw
    replace HB := Lib.hid (HB.out.trans (hw7.mono (by omega)))
    replace HT := Lib.hid (HT.out.below (hw7) HT.out.size)
    replace Vb := Lib.hid (Vb.out.below hw7 (by omega))
    replace Vc := Lib.hid (Vc.out.below hw7 (by omega))
    have Vn := Lib.hid hV; clear hV hw7
    go_wp2_with fail
    rw [← HW.out]
    clear HW HN
    go_loopw [7] (fun i wr => ∃ k : Nat, k ≤ 16 ∧ i = .int .i64 k ∧ Blk wr w1.heap.size 16 23 b ∧ Blk wr w3.heap.size 16 23 (codeI b q) ∧ Blk wr w6.heap.size 16 23 (fun i => if tr i < k then b (tr i) else 0) ∧ Below w.heap.size w wr ∧ Hid (HasTab wr)) (fun i _ => 16 - (intOf i).toNat)
    case atStart => exact ⟨0, by omega, rfl, Vb.out, Vc.out, Vn.out, HB.out, HT⟩
    case round =>
      clear Vb Vc Vn HB HT
      obtain ⟨wa, rfl⟩ : ∃ wa : World, wa = wr := ⟨_, rfl⟩
      obtain ⟨k, hk, rfl, hVb, hVc, hVn, hB, HT⟩ := hrel
      have lb := hVb.lt
      have lc := hVc.lt
      have ln := hVn.lt
      have lw := hB.size
      by_cases hlt : k < 16
      · have c1 := hVb.cell k hlt
        have htl : k % 4 * 4 + k / 4 < 16 := by omega
        have c2 := hVn.cell (k % 4 * 4 + k / 4) htl
        have f2 := hVn.frozen (k % 4 * 4 + k / 4)
        go_wp2_with fail
        go_roundw
        case rel =>
          refine ⟨k + 1, by omega, by go_num, hVb.other (by omega), hVc.other (by omega), (hVn.set (k % 4 * 4 + k / 4) _).congr (fun j hj => ?_), hB.setCell (by simp; omega) _, HT.out.below (B := w6.heap.size) ⟨rfl, rfl, rfl, by simp [World.setCell], fun i hi => Below.heap_setCell _ _ _ _ (by simp; omega)⟩ (by have := HT.out.size; have := HTB.out; omega)⟩
          have etr : tr j = k ↔ j = k % 4 * 4 + k / 4 := by unfold tr; omega
          by_cases e : j = k % 4 * 4 + k / 4
          · rw [if_pos e, if_pos (by have := etr.2 e; omega), etr.2 e]
          · by_cases e2 : tr j < k
            · rw [if_neg e, if_pos e2, if_pos (by omega)]
            · rw [if_neg e, if_neg e2, if_neg (by have : tr j ≠ k := fun h => e (etr.1 h); omega)]
        case measure => simp [intOf]; omega
      · have hV2 : Blk wa w6.heap.size 16 23 (fun i => b (tr i)) := hVn.congr (fun j hj => by rw [if_pos (by have := tr_lt j hj; omega)])
        have Vb := Lib.hid hVb; have Vc := Lib.hid hVc; have Vn := Lib.hid hV2; have HB := Lib.hid hB; clear hVb hVc hVn hV2 hB
        go_wp2_with (refine load16 w6.heap.size Vn.out rfl rfl rfl ?_)
        refine (iCode_any _ _ _ HT.out).mono ?_; rintro e w8 ⟨rfl, hw8⟩
        have zw8 : wa.heap.size ≤ w8.heap.size := hw8.size
        replace Vb := Lib.hid (Vb.out.below hw8 (by omega))
        replace Vc := Lib.hid (Vc.out.below hw8 (by omega))
        replace Vn := Lib.hid (Vn.out.below hw8 (by omega))
        replace HB := Lib.hid (HB.out.trans (hw8.mono (by omega)))
        replace HT := Lib.hid (HT.out.below (hw8) HT.out.size)
        clear hw8
        have HN := Lib.hid (show Blk (w8.alloc (.cells #[.int .i64 0, .int .i64 0, .int .i64 0, .int .i64 0, .int .i64 0, .int .i64 0, .int .i64 0, .int .i64 0, .int .i64 0, .int .i64 0, .int .i64 0, .int .i64 0, .int .i64 0, .int .i64 0, .int .i64 0, .int .i64 0] 23)) w8.heap.size 16 23 (fun _ => 0) by rw [← zero16]; exact Blk.new _ _ _ _)
        obtain ⟨w9, hw⟩ : ∃ w9, w9 = (w8.alloc (.cells #[.int .i64 0, .int .i64 0, .int .i64 0, .int .i64 0, .int .i64 0, .int .i64 0, .int .i64 0, .int .i64 0, .int .i64 0, .int .i64 0, .int .i64 0, .int .i64 0, .int .i64 0, .int .i64 0, .int .i64 0, .int .i64 0] 23)).setRow w8.heap.size (VN 16 (codeI (fun i => b (tr i)) q)) := ⟨_, rfl⟩
        have hV : Blk w9 w8.heap.size 16 23 (codeI (fun i => b (tr i)) q) := by rw [hw]; exact HN.out.setRow _
        have hw9 : Below w8.heap.size w8 w9 := by rw [hw]; exact below_setRow ((Below.refl _ _).alloc (Nat.le_refl _) _) (Nat.le_refl _) _
        have zw9 : w8.heap.size < w9.heap.size := by rw [hw]; simp
        have HW := Lib.hid hw; clear hw
        replace Vb := Lib.hid (Vb.out.below hw9 (by omega))
        replace Vc := Lib.hid (Vc.out.below hw9 (by omega))
        replace Vn := Lib.hid (Vn.out.below hw9 (by omega))
        replace HB := Lib.hid (HB.out.trans (hw9.mono (by omega)))
        replace HT := Lib.hid (HT.out.below (hw9) HT.out.size)
        have Vx := Lib.hid hV; clear hV hw9
        go_wp2_with (refine store16 w8.heap.size _ HN.out rfl rfl rfl rfl ?_; rw [← HW.out])
        clear HW HN
        go_loopw [9] (fun i wr => ∃ j m : Nat, j ≤ 16 ∧ i = .int .i64 j ∧ wr = w9.drewN m) (fun i _ => 16 - (intOf i).toNat)
        case atStart => exact ⟨0, 0, by omega, rfl, rfl⟩
        case round =>
          obtain ⟨j, m, hj, rfl, rfl⟩ := hrel
          by_cases hj16 : j < 16
          · have c1 := Vx.out.cell (j % 4 * 4 + j / 4) (by omega)
            have c2 := Vc.out.cell j hj16
            rw [show codeI (fun i => b (tr i)) q (j % 4 * 4 + j / 4) = codeI b q j from code_tr b q j hj16] at c1
            have hj1 : (j : Int) < 16 := by omega
            have hj0 : (0 : Int) ≤ j := by omega
            have d1 : (j : Int).tmod 4 = ((j % 4 : Nat) : Int) := by rw [Int.tmod_eq_emod_of_nonneg (by omega)]; omega
            have d2 : IntKind.i64.wrap ((j : Int).tdiv 4) = ((j / 4 : Nat) : Int) := by rw [Int.tdiv_eq_ediv_of_nonneg (by omega), IntWalk.i64_in _ (by omega)]; omega
            have d3 : IntKind.i64.wrap (((j % 4 : Nat) : Int) * 4) = ((j % 4 * 4 : Nat) : Int) := by rw [IntWalk.i64_in _ (by omega)]; omega
            have d4 : IntKind.i64.wrap (((j % 4 * 4 : Nat) : Int) + ((j / 4 : Nat) : Int)) = ((j % 4 * 4 + j / 4 : Nat) : Int) := by rw [IntWalk.i64_in _ (by omega)]; omega
            have d5 : (0 : Int) ≤ ((j % 4 * 4 + j / 4 : Nat) : Int) := by omega
            have d6 : ((j % 4 * 4 + j / 4 : Nat) : Int) < 16 := by omega
            go_wp2_with fail
            go_quiet (fail)
            go_wp2_with fail
            go_roundw
            case rel => exact ⟨j + 1, _, by omega, by go_num, rfl⟩
            case measure => simp [intOf]; omega
          · go_wp2_with fail
            refine (alive_any _).mono ?_; rintro e w10 ⟨rfl, hw10⟩
            go_wp2_with fail
            go_ret
            exact ⟨rfl, (below_drewN HB.out m).trans (hw10.mono (below_drewN HB.out m).size)⟩

end Go.Proofs.YtammofbncdmccaaDoor
