/- The walk of a law on two pictures. -/
import Derived.Test.YtinmfeflbaeodaaPairMath
import Derived.Test.YtinmfeflbaeodaaDrawPic5
import Derived.Deep.Cut
namespace Go.Proofs.Ytinmfeflbaeodaa
open Go.RowKit

set_option maxRecDepth 100000 in
set_option maxHeartbeats 4000000 in
theorem FnTransposePicture_walk (a : Option Addr) (len cap : Nat) (zs : List Int) (w : World) (h : IsRow .u8 w a len cap zs) :
    Calls Try.prog 3 #[.slice a len cap] w fun e w' => e = .returned (.bool true) ∧ Below w.heap.size w w' := by
  obtain ⟨hs, hm⟩ := h.bytes
  unfold maxLen at hm
  clear h
  by_cases hl : 1048576 < len
  · clear hs
    go_enter Try.func3, Try.ntmps3
    go_wp2
    go_ret
    exact ⟨rfl, Below.refl _ _⟩
  · have HS := Lib.hid hs; clear hs
    have HB := Lib.hid (Below.refl w.heap.size w)
    go_enter Try.func3, Try.ntmps3
    go_wp2_with fail
    refine (DrawAbsoluteDifference_any _ len _ _ HS.out (by omega)).mono ?_; rintro e w1 ⟨aw, ah, u, an, f, bw, bh, ub, bn, g, rfl, ⟨hSa, han⟩, ⟨hSb, hbn⟩, hw1⟩
    have zw1 : w.heap.size ≤ w1.heap.size := hw1.size
    replace HB := Lib.hid (HB.out.trans (hw1.mono (by omega)))
    clear hw1
    have hu1 := hSa.one; have hv1 := hSb.one
    have SA := Lib.hid hSa; have SB := Lib.hid hSb; clear hSa hSb
    have HN1 := Lib.hid (show PicB ((w1.alloc (.cells #[.int .i64 0, .int .i64 0, .slice none 0 0] 25)).alloc (.cells #[.int .i64 0, .int .i64 0, .slice none 0 0] 25)) w1.heap.size 0 0 (.slice none 0 0) from (PicB.new' rfl).alloc _)
    have HN2 := Lib.hid (show PicB (((w1.alloc (.cells #[.int .i64 0, .int .i64 0, .slice none 0 0] 25)).alloc (.cells #[.int .i64 0, .int .i64 0, .slice none 0 0] 25)).setRow w1.heap.size #[.int .i64 aw, .int .i64 ah, u]) (w1.heap.size + 1) 0 0 (.slice none 0 0) from PicB.setRowOther' (PicB.new' (by simp)) _ (by omega))
    obtain ⟨w2, hw⟩ : ∃ x, x = (((w1.alloc (.cells #[.int .i64 0, .int .i64 0, .slice none 0 0] 25)).alloc (.cells #[.int .i64 0, .int .i64 0, .slice none 0 0] 25)).setRow w1.heap.size #[.int .i64 aw, .int .i64 ah, u]).setRow (w1.heap.size + 1) #[.int .i64 bw, .int .i64 bh, ub] := ⟨_, rfl⟩
    have hVa : PicB w2 w1.heap.size aw ah u := by rw [hw]; exact (HN1.out.setRow _ _ _).setRowOther' _ (by omega)
    have hVb : PicB w2 (w1.heap.size + 1) bw bh ub := by rw [hw]; exact HN2.out.setRow _ _ _
    have hw2 : Below w1.heap.size w1 w2 := by rw [hw]; exact below_setRow (below_setRow (((Below.refl _ _).alloc (Nat.le_refl _) _).alloc (by simp) _) (Nat.le_refl _) _) (by omega) _
    have zw2 : w1.heap.size + 1 < w2.heap.size := by rw [hw]; simp
    have HW := Lib.hid hw; clear hw
    replace HB := Lib.hid (HB.out.trans (hw2.mono (by omega)))
    replace SA := Lib.hid (SA.out.below hw2 (by omega))
    replace SB := Lib.hid (SB.out.below hw2 (by omega))
    have Va := Lib.hid hVa; have Vb := Lib.hid hVb; clear hVa hVb hw2
    go_wp2_with (first | refine storeP (w1.heap.size) HN1.out hu1 rfl rfl rfl rfl ?_ | (refine storeP (w1.heap.size + 1) HN2.out hv1 rfl rfl rfl rfl ?_; rw [← HW.out]) | refine loadP (w1.heap.size) Va.out rfl rfl rfl ?_ | refine loadP (w1.heap.size + 1) Vb.out rfl rfl rfl ?_)
    clear HW HN1 HN2
    obtain ⟨d, hd⟩ : ∃ z, absD aw ah an f bw bh bn g = z := ⟨_, rfl⟩
    have Hd := Lib.hid hd; clear hd
    have nd : (d != d) = false := by simp
    have ed : (d == d) = true := by simp
    obtain ⟨q, hq⟩ : ∃ z, sqD aw ah an f bw bh bn g = z := ⟨_, rfl⟩
    have Hq := Lib.hid hq; clear hq
    have nq : (q != q) = false := by simp
    have eq : (q == q) = true := by simp
    clear nd nq
    have HdT := Lib.hid ((absD_tr aw ah an f bw bh bn g).trans Hd.out)
    have HqT := Lib.hid ((sqD_tr aw ah an f bw bh bn g).trans Hq.out)
    have HTa : ∀ w u, Sr .i64 w.heap.size w u an f → Calls Try.prog 12 #[.agg #[.int .i64 aw, .int .i64 ah, u]] w (GaveP (trS aw ah an f ah) (trS aw ah an f aw) (trN aw ah an f) (trF aw ah f) w) := fun w u h => iTranspose_any aw ah u an f w h (by omega)
    have HTb : ∀ w u, Sr .i64 w.heap.size w u bn g → Calls Try.prog 12 #[.agg #[.int .i64 bw, .int .i64 bh, u]] w (GaveP (trS bw bh bn g bh) (trS bw bh bn g bw) (trN bw bh bn g) (trF bw bh g) w) := fun w u h => iTranspose_any bw bh u bn g w h (by omega)
    have HTs : ∀ w u, Sr .i64 w.heap.size w u an f → Calls Try.prog 14 #[.agg #[.int .i64 aw, .int .i64 ah, u]] w (GaveP (trS aw ah an f ah) (trS aw ah an f aw) (trN aw ah an f) (trF aw ah f) w) := fun w u h => sTranspose_any aw ah u an f w h (by omega)
    have hna := trN_le aw ah an f; have hnb := trN_le bw bh bn g
    generalize trS aw ah an f ah = xw at *
    generalize trS aw ah an f aw = xh at *
    generalize trN aw ah an f = xn at *
    generalize trF aw ah f = xf at *
    generalize trS bw bh bn g bh = yw at *
    generalize trS bw bh bn g bw = yh at *
    generalize trN bw bh bn g = yn at *
    generalize trF bw bh g = yf at *
    have HTA := Lib.hid HTa; have HTB := Lib.hid HTb; have HTS := Lib.hid HTs; clear HTa HTb HTs
    refine (HTA.out _ u (SA.out.sr.mono (by omega))).mono ?_; rintro e w3 ⟨a1, c1, rfl, r1, hw3⟩
    have zw3 : w2.heap.size ≤ w3.heap.size := hw3.size
    replace HB := Lib.hid (HB.out.trans (hw3.mono (by omega)))
    replace SA := Lib.hid (SA.out.below hw3 (by omega))
    replace SB := Lib.hid (SB.out.below hw3 (by omega))
    replace Va := Lib.hid (Va.out.below hw3 (by omega))
    replace Vb := Lib.hid (Vb.out.below hw3 (by omega))
    clear hw3
    have SX := Lib.hid r1; clear r1
    have HN := Lib.hid (show PicB (w3.alloc (.cells #[.int .i64 0, .int .i64 0, .slice none 0 0] 25)) w3.heap.size 0 0 (.slice none 0 0) from PicB.new' rfl)
    obtain ⟨w4, hw⟩ : ∃ x, x = (w3.alloc (.cells #[.int .i64 0, .int .i64 0, .slice none 0 0] 25)).setRow w3.heap.size #[.int .i64 xw, .int .i64 xh, .slice a1 xn c1] := ⟨_, rfl⟩
    have hV : PicB w4 w3.heap.size xw xh (.slice a1 xn c1) := by rw [hw]; exact HN.out.setRow _ _ _
    have hw4 : Below w3.heap.size w3 w4 := by rw [hw]; exact below_setRow ((Below.refl _ _).alloc (Nat.le_refl _) _) (Nat.le_refl _) _
    have zw4 : w3.heap.size < w4.heap.size := by rw [hw]; simp
    have HW := Lib.hid hw; clear hw
    replace HB := Lib.hid (HB.out.trans (hw4.mono (by omega)))
    replace SA := Lib.hid (SA.out.below hw4 (by omega))
    replace SB := Lib.hid (SB.out.below hw4 (by omega))
    replace Va := Lib.hid (Va.out.below hw4 (by omega))
    replace Vb := Lib.hid (Vb.out.below hw4 (by omega))
    replace SX := Lib.hid (SX.out.below hw4 (by omega))
    have Vx := Lib.hid hV; clear hV hw4
    go_wp2_with (first | (refine storeP w3.heap.size HN.out rfl rfl rfl rfl rfl ?_; rw [← HW.out]) | refine loadP (w1.heap.size) Va.out rfl rfl rfl ?_ | refine loadP (w1.heap.size + 1) Vb.out rfl rfl rfl ?_)
    clear HW HN
    refine (HTB.out _ ub (SB.out.sr.mono (by omega))).mono ?_; rintro e w5 ⟨ay, cy, rfl, r2, hw5⟩
    have zw5 : w4.heap.size ≤ w5.heap.size := hw5.size
    replace HB := Lib.hid (HB.out.trans (hw5.mono (by omega)))
    replace SA := Lib.hid (SA.out.below hw5 (by omega))
    replace SB := Lib.hid (SB.out.below hw5 (by omega))
    replace Va := Lib.hid (Va.out.below hw5 (by omega))
    replace Vb := Lib.hid (Vb.out.below hw5 (by omega))
    replace SX := Lib.hid (SX.out.below hw5 (by omega))
    replace Vx := Lib.hid (Vx.out.below hw5 (by omega))
    clear hw5
    have SY := Lib.hid r2; clear r2
    have HN := Lib.hid (show PicB (w5.alloc (.cells #[.int .i64 0, .int .i64 0, .slice none 0 0] 25)) w5.heap.size 0 0 (.slice none 0 0) from PicB.new' rfl)
    obtain ⟨w6, hw⟩ : ∃ x, x = (w5.alloc (.cells #[.int .i64 0, .int .i64 0, .slice none 0 0] 25)).setRow w5.heap.size #[.int .i64 yw, .int .i64 yh, .slice ay yn cy] := ⟨_, rfl⟩
    have hV : PicB w6 w5.heap.size yw yh (.slice ay yn cy) := by rw [hw]; exact HN.out.setRow _ _ _
    have hw6 : Below w5.heap.size w5 w6 := by rw [hw]; exact below_setRow ((Below.refl _ _).alloc (Nat.le_refl _) _) (Nat.le_refl _) _
    have zw6 : w5.heap.size < w6.heap.size := by rw [hw]; simp
    have HW := Lib.hid hw; clear hw
    replace HB := Lib.hid (HB.out.trans (hw6.mono (by omega)))
    replace SA := Lib.hid (SA.out.below hw6 (by omega))
    replace SB := Lib.hid (SB.out.below hw6 (by omega))
    replace Va := Lib.hid (Va.out.below hw6 (by omega))
    replace Vb := Lib.hid (Vb.out.below hw6 (by omega))
    replace SX := Lib.hid (SX.out.below hw6 (by omega))
    replace Vx := Lib.hid (Vx.out.below hw6 (by omega))
    replace SY := Lib.hid (SY.out.below hw6 (by omega))
    have Vy := Lib.hid hV; clear hV hw6
    go_wp2_with (first | (refine storeP w5.heap.size HN.out rfl rfl rfl rfl rfl ?_; rw [← HW.out]))
    clear HW HN
    refine wp_region_log 25 (fun _ w' => Below w6.heap.size w6 w') (fun w1 w2 => Below w1.heap.size w1 w2) [fun _ v => v = .agg #[.int .i64 xw, .int .i64 xh, .slice a1 xn c1], fun _ v => v = .agg #[.int .i64 aw, .int .i64 ah, u], fun w' v => ∃ a c, v = .agg #[.int .i64 xw, .int .i64 xh, .slice a (xn) c] ∧ Sn .i64 w6.heap.size w'.heap.size w' (.slice a (xn) c) (xn) xf, fun _ v => v = .bool true, fun _ v => v = .bool true, fun _ v => v = .agg #[.int .i64 xw, .int .i64 xh, .slice a1 xn c1], fun _ v => v = .agg #[.int .i64 yw, .int .i64 yh, .slice ay yn cy], fun _ v => v = .int .i64 d, fun _ v => v = .agg #[.int .i64 aw, .int .i64 ah, u], fun _ v => v = .agg #[.int .i64 bw, .int .i64 bh, ub], fun _ v => v = .int .i64 d, fun _ v => v = .bool true, fun _ v => v = .bool true, fun _ v => v = .bool true, fun _ v => v = .agg #[.int .i64 xw, .int .i64 xh, .slice a1 xn c1], fun _ v => v = .agg #[.int .i64 yw, .int .i64 yh, .slice ay yn cy], fun _ v => v = .int .i64 q, fun _ v => v = .agg #[.int .i64 aw, .int .i64 ah, u], fun _ v => v = .agg #[.int .i64 bw, .int .i64 bh, ub], fun _ v => v = .int .i64 q, fun _ v => v = .bool true, fun _ v => v = .bool true, fun _ v => v = .bool true, fun _ v => v = .bool true, fun _ v => v = .bool true] (by kernel_rfl) (by kernel_rfl) (Below.refl _ _).drew ?_ ?_ ?_
    · intro V hV wq1 wq2 v hv hr
      simp only [List.mem_cons, List.not_mem_nil, or_false] at hV
      rcases hV with rfl | rfl | rfl | rfl | rfl | rfl | rfl | rfl | rfl | rfl | rfl | rfl | rfl | rfl | rfl | rfl | rfl | rfl | rfl | rfl | rfl | rfl | rfl | rfl | rfl
      · exact hv
      · exact hv
      · obtain ⟨a, c, e, h⟩ := hv; exact ⟨a, c, e, (h.below hr (Nat.le_refl _)).mono (Nat.le_refl _) hr.size⟩
      · exact hv
      · exact hv
      · exact hv
      · exact hv
      · exact hv
      · exact hv
      · exact hv
      · exact hv
      · exact hv
      · exact hv
      · exact hv
      · exact hv
      · exact hv
      · exact hv
      · exact hv
      · exact hv
      · exact hv
      · exact hv
      · exact hv
      · exact hv
      · exact hv
      · exact hv
    · refine ⟨?_, ?_, ?_, ?_, ?_, ?_, ?_, ?_, ?_, ?_, ?_, ?_, ?_, ?_, ?_, ?_, ?_, ?_, ?_, ?_, ?_, ?_, ?_, ?_, ?_, trivial⟩
      · intro vs k1 wq1 hk1 hS1 hd fb hb K hK
        replace hb : fb = _ := hb
        subst hb
        refine ifW_yes (by kernel_rfl) ?_
        refine wp_load_row _ _ rfl (w3.heap.size) rfl _ _ (0, 0) _ (Vx.out.below hS1 (by omega)) Try.underlying25 rfl (infoP _ _ _) ?_
        exact hK.out _ _ hS1 (Below.refl _ _) rfl
      · intro vs k1 wq1 hk1 hS1 hd fb hb K hK
        replace hb : fb = _ := hb
        subst hb
        refine ifW_yes (by kernel_rfl) ?_
        refine wp_load_row _ _ rfl (w1.heap.size) rfl _ _ (0, 0) _ (Va.out.below hS1 (by omega)) Try.underlying25 rfl (infoP _ _ _) ?_
        exact hK.out _ _ hS1 (Below.refl _ _) rfl
      · intro vs k1 wq1 hk1 hS1 hd fb hb K hK
        obtain ⟨d1, _⟩ := hd
        replace hb : fb = Act.put (_) (some 20) (vs 1) := hb
        have e1 : vs 1 = .agg #[.int .i64 aw, .int .i64 ah, u] := d1
        rw [e1] at hb; clear e1 d1
        subst hb
        refine ifW_yes (by kernel_rfl) ?_
        have hz1 := hS1.size
        go_simp
        refine (HTS.out _ u ((SA.out.below hS1 (by omega)).sr.mono (by omega))).mono ?_; rintro e wq2 ⟨a2, c2, rfl, k2, hb2⟩
        exact hK.out _ _ (hS1.trans (hb2.mono (by omega))) hb2 ⟨a2, c2, rfl, k2.mono (by omega) (Nat.le_refl _)⟩
      · intro vs k1 wq1 hk1 hS1 hd fb hb K hK
        obtain ⟨d0, d2, _, _⟩ := hd
        replace hb : fb = Act.put (Act.put (Act.put (_) (some 19) (vs 0)) (some 21) (vs 2)) (some 21) (vs 2) := hb
        have e0 : vs 0 = .agg #[.int .i64 xw, .int .i64 xh, .slice a1 xn c1] := d0
        rw [e0] at hb; clear e0 d0
        obtain ⟨a2, c2, e2, k2⟩ := d2
        rw [e2] at hb; clear e2
        subst hb
        refine ifW_yes (by kernel_rfl) ?_
        have hz1 := hS1.size
        go_simp
        refine (samePicture_yes xw xh _ _ xn xf xf _ ((SX.out.below hS1 (by omega)).sr.mono (by omega)) k2.sr (fun _ _ => rfl) (by omega)).mono ?_; rintro e wq2 ⟨rfl, hb2⟩
        exact hK.out _ _ (hS1.trans (hb2.mono (by omega))) hb2 rfl
      · intro vs k1 wq1 hk1 hS1 hd fb hb K hK
        obtain ⟨d3, _, _⟩ := hd
        replace hb : fb = Act.put (Act.put (_) (some 22) (vs 3)) (some 22) (vs 3) := hb
        have e3 : vs 3 = .bool true := d3
        rw [e3] at hb; clear e3 d3
        subst hb
        refine ifW_yes (by kernel_rfl) ?_
        go_simp
        exact hK.out _ _ hS1 (Below.refl _ _) rfl
      · intro vs k1 wq1 hk1 hS1 hd fb hb K hK
        obtain ⟨d4, _⟩ := hd
        replace hb : fb = Act.put (_) (some 23) (vs 4) := hb
        have e4 : vs 4 = .bool true := d4
        rw [e4] at hb; clear e4 d4
        subst hb
        refine ifW_yes (by kernel_rfl) ?_
        refine wp_load_row _ _ rfl (w3.heap.size) rfl _ _ (0, 0) _ (Vx.out.below hS1 (by omega)) Try.underlying25 rfl (infoP _ _ _) ?_
        exact hK.out _ _ hS1 (Below.refl _ _) rfl
      · intro vs k1 wq1 hk1 hS1 hd fb hb K hK
        obtain ⟨d4, _⟩ := hd
        replace hb : fb = Act.put (_) (some 23) (vs 4) := hb
        have e4 : vs 4 = .bool true := d4
        rw [e4] at hb; clear e4 d4
        subst hb
        refine ifW_yes (by kernel_rfl) ?_
        refine wp_load_row _ _ rfl (w5.heap.size) rfl _ _ (0, 0) _ (Vy.out.below hS1 (by omega)) Try.underlying25 rfl (infoP _ _ _) ?_
        exact hK.out _ _ hS1 (Below.refl _ _) rfl
      · intro vs k1 wq1 hk1 hS1 hd fb hb K hK
        obtain ⟨d5, d6, d4, _, _⟩ := hd
        replace hb : fb = Act.put (Act.put (Act.put (Act.put (_) (some 24) (vs 5)) (some 25) (vs 6)) (some 23) (vs 4)) (some 23) (vs 4) := hb
        have e5 : vs 5 = .agg #[.int .i64 xw, .int .i64 xh, .slice a1 xn c1] := d5
        rw [e5] at hb; clear e5 d5
        have e6 : vs 6 = .agg #[.int .i64 yw, .int .i64 yh, .slice ay yn cy] := d6
        rw [e6] at hb; clear e6 d6
        have e4 : vs 4 = .bool true := d4
        rw [e4] at hb; clear e4 d4
        subst hb
        refine ifW_yes (by kernel_rfl) ?_
        have hz1 := hS1.size
        go_simp
        refine (iAbsoluteDifference_any xw xh (.slice a1 xn c1) xn xf yw yh (.slice ay yn cy) yn yf _ ((SX.out.below hS1 (by omega)).sr.mono (by omega)) ((SY.out.below hS1 (by omega)).sr.mono (by omega)) (by omega) (by omega)).mono ?_; rintro e wq2 ⟨rfl, hb2⟩
        rw [HdT.out]
        exact hK.out _ _ (hS1.trans (hb2.mono (by omega))) hb2 rfl
      · intro vs k1 wq1 hk1 hS1 hd fb hb K hK
        obtain ⟨d4, _⟩ := hd
        replace hb : fb = Act.put (_) (some 23) (vs 4) := hb
        have e4 : vs 4 = .bool true := d4
        rw [e4] at hb; clear e4 d4
        subst hb
        refine ifW_yes (by kernel_rfl) ?_
        refine wp_load_row _ _ rfl (w1.heap.size) rfl _ _ (0, 0) _ (Va.out.below hS1 (by omega)) Try.underlying25 rfl (infoP _ _ _) ?_
        exact hK.out _ _ hS1 (Below.refl _ _) rfl
      · intro vs k1 wq1 hk1 hS1 hd fb hb K hK
        obtain ⟨d4, _⟩ := hd
        replace hb : fb = Act.put (_) (some 23) (vs 4) := hb
        have e4 : vs 4 = .bool true := d4
        rw [e4] at hb; clear e4 d4
        subst hb
        refine ifW_yes (by kernel_rfl) ?_
        refine wp_load_row _ _ rfl (w1.heap.size + 1) rfl _ _ (0, 0) _ (Vb.out.below hS1 (by omega)) Try.underlying25 rfl (infoP _ _ _) ?_
        exact hK.out _ _ hS1 (Below.refl _ _) rfl
      · intro vs k1 wq1 hk1 hS1 hd fb hb K hK
        obtain ⟨d8, d9, d7, d4, _⟩ := hd
        replace hb : fb = Act.put (Act.put (Act.put (Act.put (_) (some 27) (vs 8)) (some 28) (vs 9)) (some 26) (vs 7)) (some 23) (vs 4) := hb
        have e8 : vs 8 = .agg #[.int .i64 aw, .int .i64 ah, u] := d8
        rw [e8] at hb; clear e8 d8
        have e9 : vs 9 = .agg #[.int .i64 bw, .int .i64 bh, ub] := d9
        rw [e9] at hb; clear e9 d9
        have e7 : vs 7 = .int .i64 d := d7
        rw [e7] at hb; clear e7 d7
        have e4 : vs 4 = .bool true := d4
        rw [e4] at hb; clear e4 d4
        subst hb
        refine ifW_yes (by kernel_rfl) ?_
        have hz1 := hS1.size
        go_simp
        refine (iAbsoluteDifference_any aw ah u an f bw bh ub bn g _ ((SA.out.below hS1 (by omega)).sr.mono (by omega)) ((SB.out.below hS1 (by omega)).sr.mono (by omega)) (by omega) (by omega)).mono ?_; rintro e wq2 ⟨rfl, hb2⟩
        rw [Hd.out]
        exact hK.out _ _ (hS1.trans (hb2.mono (by omega))) hb2 rfl
      · intro vs k1 wq1 hk1 hS1 hd fb hb K hK
        obtain ⟨d7, d10, d4, _⟩ := hd
        replace hb : fb = Act.put (Act.put (Act.put (_) (some 26) (vs 7)) (some 29) (vs 10)) (some 23) (vs 4) := hb
        have e7 : vs 7 = .int .i64 d := d7
        rw [e7] at hb; clear e7 d7
        have e10 : vs 10 = .int .i64 d := d10
        rw [e10] at hb; clear e10 d10
        have e4 : vs 4 = .bool true := d4
        rw [e4] at hb; clear e4 d4
        subst hb
        refine ifW_yes (by kernel_rfl) ?_
        go_simp
        exact hK.out _ _ hS1 (Below.refl _ _) rfl
      · intro vs k1 wq1 hk1 hS1 hd fb hb K hK
        obtain ⟨d4, d11, _⟩ := hd
        replace hb : fb = Act.put (Act.put (_) (some 23) (vs 4)) (some 30) (vs 11) := hb
        have e4 : vs 4 = .bool true := d4
        rw [e4] at hb; clear e4 d4
        have e11 : vs 11 = .bool true := d11
        rw [e11] at hb; clear e11 d11
        subst hb
        refine ifW_yes (by kernel_rfl) ?_
        go_simp
        exact hK.out _ _ hS1 (Below.refl _ _) rfl
      · intro vs k1 wq1 hk1 hS1 hd fb hb K hK
        obtain ⟨d12, d10, _⟩ := hd
        replace hb : fb = Act.put (Act.put (_) (some 31) (vs 12)) (some 29) (vs 10) := hb
        have e12 : vs 12 = .bool true := d12
        rw [e12] at hb; clear e12 d12
        have e10 : vs 10 = .int .i64 d := d10
        rw [e10] at hb; clear e10 d10
        subst hb
        refine ifW_yes (by kernel_rfl) ?_
        go_simp
        exact hK.out _ _ hS1 (Below.refl _ _) rfl
      · intro vs k1 wq1 hk1 hS1 hd fb hb K hK
        obtain ⟨d13, _⟩ := hd
        replace hb : fb = Act.put (_) (some 32) (vs 13) := hb
        have e13 : vs 13 = .bool true := d13
        rw [e13] at hb; clear e13 d13
        subst hb
        refine ifW_yes (by kernel_rfl) ?_
        refine wp_load_row _ _ rfl (w3.heap.size) rfl _ _ (0, 0) _ (Vx.out.below hS1 (by omega)) Try.underlying25 rfl (infoP _ _ _) ?_
        exact hK.out _ _ hS1 (Below.refl _ _) rfl
      · intro vs k1 wq1 hk1 hS1 hd fb hb K hK
        obtain ⟨d13, _⟩ := hd
        replace hb : fb = Act.put (_) (some 32) (vs 13) := hb
        have e13 : vs 13 = .bool true := d13
        rw [e13] at hb; clear e13 d13
        subst hb
        refine ifW_yes (by kernel_rfl) ?_
        refine wp_load_row _ _ rfl (w5.heap.size) rfl _ _ (0, 0) _ (Vy.out.below hS1 (by omega)) Try.underlying25 rfl (infoP _ _ _) ?_
        exact hK.out _ _ hS1 (Below.refl _ _) rfl
      · intro vs k1 wq1 hk1 hS1 hd fb hb K hK
        obtain ⟨d14, d15, d13, _, _⟩ := hd
        replace hb : fb = Act.put (Act.put (Act.put (Act.put (_) (some 33) (vs 14)) (some 34) (vs 15)) (some 32) (vs 13)) (some 32) (vs 13) := hb
        have e14 : vs 14 = .agg #[.int .i64 xw, .int .i64 xh, .slice a1 xn c1] := d14
        rw [e14] at hb; clear e14 d14
        have e15 : vs 15 = .agg #[.int .i64 yw, .int .i64 yh, .slice ay yn cy] := d15
        rw [e15] at hb; clear e15 d15
        have e13 : vs 13 = .bool true := d13
        rw [e13] at hb; clear e13 d13
        subst hb
        refine ifW_yes (by kernel_rfl) ?_
        have hz1 := hS1.size
        go_simp
        refine (iSquaredDifference_any xw xh (.slice a1 xn c1) xn xf yw yh (.slice ay yn cy) yn yf _ ((SX.out.below hS1 (by omega)).sr.mono (by omega)) ((SY.out.below hS1 (by omega)).sr.mono (by omega)) (by omega) (by omega)).mono ?_; rintro e wq2 ⟨rfl, hb2⟩
        rw [HqT.out]
        exact hK.out _ _ (hS1.trans (hb2.mono (by omega))) hb2 rfl
      · intro vs k1 wq1 hk1 hS1 hd fb hb K hK
        obtain ⟨d13, _⟩ := hd
        replace hb : fb = Act.put (_) (some 32) (vs 13) := hb
        have e13 : vs 13 = .bool true := d13
        rw [e13] at hb; clear e13 d13
        subst hb
        refine ifW_yes (by kernel_rfl) ?_
        refine wp_load_row _ _ rfl (w1.heap.size) rfl _ _ (0, 0) _ (Va.out.below hS1 (by omega)) Try.underlying25 rfl (infoP _ _ _) ?_
        exact hK.out _ _ hS1 (Below.refl _ _) rfl
      · intro vs k1 wq1 hk1 hS1 hd fb hb K hK
        obtain ⟨d13, _⟩ := hd
        replace hb : fb = Act.put (_) (some 32) (vs 13) := hb
        have e13 : vs 13 = .bool true := d13
        rw [e13] at hb; clear e13 d13
        subst hb
        refine ifW_yes (by kernel_rfl) ?_
        refine wp_load_row _ _ rfl (w1.heap.size + 1) rfl _ _ (0, 0) _ (Vb.out.below hS1 (by omega)) Try.underlying25 rfl (infoP _ _ _) ?_
        exact hK.out _ _ hS1 (Below.refl _ _) rfl
      · intro vs k1 wq1 hk1 hS1 hd fb hb K hK
        obtain ⟨d17, d18, d16, d13, _⟩ := hd
        replace hb : fb = Act.put (Act.put (Act.put (Act.put (_) (some 36) (vs 17)) (some 37) (vs 18)) (some 35) (vs 16)) (some 32) (vs 13) := hb
        have e17 : vs 17 = .agg #[.int .i64 aw, .int .i64 ah, u] := d17
        rw [e17] at hb; clear e17 d17
        have e18 : vs 18 = .agg #[.int .i64 bw, .int .i64 bh, ub] := d18
        rw [e18] at hb; clear e18 d18
        have e16 : vs 16 = .int .i64 q := d16
        rw [e16] at hb; clear e16 d16
        have e13 : vs 13 = .bool true := d13
        rw [e13] at hb; clear e13 d13
        subst hb
        refine ifW_yes (by kernel_rfl) ?_
        have hz1 := hS1.size
        go_simp
        refine (iSquaredDifference_any aw ah u an f bw bh ub bn g _ ((SA.out.below hS1 (by omega)).sr.mono (by omega)) ((SB.out.below hS1 (by omega)).sr.mono (by omega)) (by omega) (by omega)).mono ?_; rintro e wq2 ⟨rfl, hb2⟩
        rw [Hq.out]
        exact hK.out _ _ (hS1.trans (hb2.mono (by omega))) hb2 rfl
      · intro vs k1 wq1 hk1 hS1 hd fb hb K hK
        obtain ⟨d16, d19, d13, _⟩ := hd
        replace hb : fb = Act.put (Act.put (Act.put (_) (some 35) (vs 16)) (some 38) (vs 19)) (some 32) (vs 13) := hb
        have e16 : vs 16 = .int .i64 q := d16
        rw [e16] at hb; clear e16 d16
        have e19 : vs 19 = .int .i64 q := d19
        rw [e19] at hb; clear e19 d19
        have e13 : vs 13 = .bool true := d13
        rw [e13] at hb; clear e13 d13
        subst hb
        refine ifW_yes (by kernel_rfl) ?_
        go_simp
        exact hK.out _ _ hS1 (Below.refl _ _) rfl
      · intro vs k1 wq1 hk1 hS1 hd fb hb K hK
        obtain ⟨d13, d20, _⟩ := hd
        replace hb : fb = Act.put (Act.put (_) (some 32) (vs 13)) (some 39) (vs 20) := hb
        have e13 : vs 13 = .bool true := d13
        rw [e13] at hb; clear e13 d13
        have e20 : vs 20 = .bool true := d20
        rw [e20] at hb; clear e20 d20
        subst hb
        refine ifW_yes (by kernel_rfl) ?_
        go_simp
        exact hK.out _ _ hS1 (Below.refl _ _) rfl
      · intro vs k1 wq1 hk1 hS1 hd fb hb K hK
        obtain ⟨d21, d19, _⟩ := hd
        replace hb : fb = Act.put (Act.put (_) (some 40) (vs 21)) (some 38) (vs 19) := hb
        have e21 : vs 21 = .bool true := d21
        rw [e21] at hb; clear e21 d21
        have e19 : vs 19 = .int .i64 q := d19
        rw [e19] at hb; clear e19 d19
        subst hb
        refine ifW_yes (by kernel_rfl) ?_
        go_simp
        exact hK.out _ _ hS1 (Below.refl _ _) rfl
      · intro vs k1 wq1 hk1 hS1 hd fb hb K hK
        obtain ⟨d22, _, _⟩ := hd
        replace hb : fb = Act.put (Act.put (_) (some 41) (vs 22)) (some 41) (vs 22) := hb
        have e22 : vs 22 = .bool true := d22
        rw [e22] at hb; clear e22 d22
        subst hb
        refine ifW_yes (by kernel_rfl) ?_
        have hz1 := hS1.size
        go_simp
        refine (alive_any _).mono ?_; rintro e wq2 ⟨rfl, hb2⟩
        exact hK.out _ _ (hS1.trans (hb2.mono (by omega))) hb2 rfl
      · intro vs k1 wq1 hk1 hS1 hd fb hb K hK
        obtain ⟨d22, d23, _⟩ := hd
        replace hb : fb = Act.put (Act.put (_) (some 41) (vs 22)) (some 42) (vs 23) := hb
        have e22 : vs 22 = .bool true := d22
        rw [e22] at hb; clear e22 d22
        have e23 : vs 23 = .bool true := d23
        rw [e23] at hb; clear e23 d23
        subst hb
        refine ifW_yes (by kernel_rfl) ?_
        go_simp
        exact hK.out _ _ hS1 (Below.refl _ _) rfl
    · intro vs w7 hw7 hd fb hb
      have zw7 : w6.heap.size ≤ w7.heap.size := hw7.size
      replace HB := Lib.hid (HB.out.trans (hw7.mono (by omega)))
      replace SA := Lib.hid (SA.out.below hw7 (by omega))
      replace SB := Lib.hid (SB.out.below hw7 (by omega))
      replace Va := Lib.hid (Va.out.below hw7 (by omega))
      replace Vb := Lib.hid (Vb.out.below hw7 (by omega))
      replace SX := Lib.hid (SX.out.below hw7 (by omega))
      replace Vx := Lib.hid (Vx.out.below hw7 (by omega))
      replace SY := Lib.hid (SY.out.below hw7 (by omega))
      replace Vy := Lib.hid (Vy.out.below hw7 (by omega))
      obtain ⟨d0, d1, d2, d3, d4, d5, d6, d7, d8, d9, d10, d11, d12, d13, d14, d15, d16, d17, d18, d19, d20, d21, d22, d23, d24, _⟩ := hd
      replace hb : fb = Act.put (Act.put (Act.put (Act.put (Act.put (Act.put (Act.put (Act.put (Act.put (Act.put (Act.put (Act.put (Act.put (Act.put (Act.put (Act.put (Act.put (Act.put (Act.put (Act.put (Act.put (Act.put (Act.put (Act.put (Act.put (_) (some 19) (vs 0)) (some 20) (vs 1)) (some 21) (vs 2)) (some 22) (vs 3)) (some 23) (vs 4)) (some 24) (vs 5)) (some 25) (vs 6)) (some 26) (vs 7)) (some 27) (vs 8)) (some 28) (vs 9)) (some 29) (vs 10)) (some 30) (vs 11)) (some 31) (vs 12)) (some 32) (vs 13)) (some 33) (vs 14)) (some 34) (vs 15)) (some 35) (vs 16)) (some 36) (vs 17)) (some 37) (vs 18)) (some 38) (vs 19)) (some 39) (vs 20)) (some 40) (vs 21)) (some 41) (vs 22)) (some 42) (vs 23)) (some 43) (vs 24) := hb
      have e0 : vs 0 = .agg #[.int .i64 xw, .int .i64 xh, .slice a1 xn c1] := d0
      rw [e0] at hb; clear e0 d0
      have e1 : vs 1 = .agg #[.int .i64 aw, .int .i64 ah, u] := d1
      rw [e1] at hb; clear e1 d1
      obtain ⟨a2, c2, e2, k2⟩ := d2
      rw [e2] at hb; clear e2
      have e3 : vs 3 = .bool true := d3
      rw [e3] at hb; clear e3 d3
      have e4 : vs 4 = .bool true := d4
      rw [e4] at hb; clear e4 d4
      have e5 : vs 5 = .agg #[.int .i64 xw, .int .i64 xh, .slice a1 xn c1] := d5
      rw [e5] at hb; clear e5 d5
      have e6 : vs 6 = .agg #[.int .i64 yw, .int .i64 yh, .slice ay yn cy] := d6
      rw [e6] at hb; clear e6 d6
      have e7 : vs 7 = .int .i64 d := d7
      rw [e7] at hb; clear e7 d7
      have e8 : vs 8 = .agg #[.int .i64 aw, .int .i64 ah, u] := d8
      rw [e8] at hb; clear e8 d8
      have e9 : vs 9 = .agg #[.int .i64 bw, .int .i64 bh, ub] := d9
      rw [e9] at hb; clear e9 d9
      have e10 : vs 10 = .int .i64 d := d10
      rw [e10] at hb; clear e10 d10
      have e11 : vs 11 = .bool true := d11
      rw [e11] at hb; clear e11 d11
      have e12 : vs 12 = .bool true := d12
      rw [e12] at hb; clear e12 d12
      have e13 : vs 13 = .bool true := d13
      rw [e13] at hb; clear e13 d13
      have e14 : vs 14 = .agg #[.int .i64 xw, .int .i64 xh, .slice a1 xn c1] := d14
      rw [e14] at hb; clear e14 d14
      have e15 : vs 15 = .agg #[.int .i64 yw, .int .i64 yh, .slice ay yn cy] := d15
      rw [e15] at hb; clear e15 d15
      have e16 : vs 16 = .int .i64 q := d16
      rw [e16] at hb; clear e16 d16
      have e17 : vs 17 = .agg #[.int .i64 aw, .int .i64 ah, u] := d17
      rw [e17] at hb; clear e17 d17
      have e18 : vs 18 = .agg #[.int .i64 bw, .int .i64 bh, ub] := d18
      rw [e18] at hb; clear e18 d18
      have e19 : vs 19 = .int .i64 q := d19
      rw [e19] at hb; clear e19 d19
      have e20 : vs 20 = .bool true := d20
      rw [e20] at hb; clear e20 d20
      have e21 : vs 21 = .bool true := d21
      rw [e21] at hb; clear e21 d21
      have e22 : vs 22 = .bool true := d22
      rw [e22] at hb; clear e22 d22
      have e23 : vs 23 = .bool true := d23
      rw [e23] at hb; clear e23 d23
      have e24 : vs 24 = .bool true := d24
      rw [e24] at hb; clear e24 d24
      subst hb
      simp only [List.drop_succ_cons, List.drop_zero, Act.put, List.setIfInBounds_toArray, List.set_cons_succ, List.set_cons_zero]
      clear hw7
      clear k2
      go_wp2_with fail
      go_ret
      exact ⟨rfl, HB.out⟩

end Go.Proofs.Ytinmfeflbaeodaa
