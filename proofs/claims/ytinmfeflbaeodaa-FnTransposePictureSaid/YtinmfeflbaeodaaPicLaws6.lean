/- The walk of the law on transposing twice. -/
import Derived.Test.YtinmfeflbaeodaaPicLaws5
import Derived.Test.YtinmfeflbaeodaaPic4
import Derived.Deep.Cut
namespace Go.Proofs.Ytinmfeflbaeodaa
open Go.RowKit

/-- The transpose of a valid picture is valid, and its transpose is the picture. -/
theorem tr_ok {pw ph : Int} {k : Nat} {f : Nat → Int} (h : pvB pw ph k f = true) : pvB ph pw k (trF pw ph f) = true ∧ ∀ i, i < k → trF ph pw (trF pw ph f) i = f i := by
  obtain ⟨h1, h2, h3, h4⟩ := pvB_out h
  have s1 := sideB_out h1
  have s2 := sideB_out h2
  obtain ⟨W, rfl⟩ := Int.eq_ofNat_of_zero_le (a := pw) (by omega)
  obtain ⟨H, rfl⟩ := Int.eq_ofNat_of_zero_le (a := ph) (by omega)
  have hk : k = W * H := by
    have : ((W : Int) * (H : Int)) = ((W * H : Nat) : Int) := by simp
    omega
  subst hk
  constructor
  · rw [pvB_in h2 h1 (by rw [h3, Int.mul_comm])]
    exact smpB_true (fun j hj => by
      unfold trF
      simp only [Int.toNat_natCast]
      exact h4 _ (tr_lt' W H j hj))
  · intro i hi
    unfold trF
    simp only [Int.toNat_natCast]
    rw [tr_tr' H W i (by rw [Nat.mul_comm]; exact hi)]
theorem samp_tr {pw ph : Int} {k : Nat} {f : Nat → Int} (h : pvB pw ph k f = true) : sampI ph pw k (trF pw ph f) 3 5 = sampI pw ph k f 5 3 := by
  unfold sampI
  rw [if_pos h, if_pos (tr_ok h).1]
  obtain ⟨h1, h2, h3, h4⟩ := pvB_out h
  have s1 := sideB_out h1
  have s2 := sideB_out h2
  obtain ⟨W, rfl⟩ := Int.eq_ofNat_of_zero_le (a := pw) (by omega)
  obtain ⟨H, rfl⟩ := Int.eq_ofNat_of_zero_le (a := ph) (by omega)
  have e1 : atN (H : Int) (W : Int) 3 5 = 5 * H + 3 := by
    unfold atN
    rw [show clampI 5 0 ((W : Int) - 1) = 5 by unfold clampI; omega, show clampI 3 0 ((H : Int) - 1) = 3 by unfold clampI; omega]
    omega
  have e2 : atN (W : Int) (H : Int) 5 3 = 3 * W + 5 := by
    unfold atN
    rw [show clampI 3 0 ((H : Int) - 1) = 3 by unfold clampI; omega, show clampI 5 0 ((W : Int) - 1) = 5 by unfold clampI; omega]
    omega
  rw [e1, e2]
  unfold trF
  simp only [Int.toNat_natCast]
  rw [tr_at W H 5 3 (by omega)]
theorem iTr_ok (pw ph : Int) (v : Value) (n : Nat) (b : Nat → Int) (w : World) (hp : pvB pw ph n b = true) (h : Sr .i64 w.heap.size w v n b) (hn : n ≤ 1000000000000) :
    Calls Try.prog 12 #[.agg #[.int .i64 pw, .int .i64 ph, v]] w (GaveP ph pw n (trF pw ph b) w) := by
  have := iTranspose_any pw ph v n b w h hn
  unfold trS trN at this
  rwa [hp] at this
theorem iTr_no (pw ph : Int) (v : Value) (n : Nat) (b : Nat → Int) (w : World) (hp : pvB pw ph n b = false) (h : Sr .i64 w.heap.size w v n b) (hn : n ≤ 1000000000000) :
    Calls Try.prog 12 #[.agg #[.int .i64 pw, .int .i64 ph, v]] w (GaveP 0 0 0 (trF pw ph b) w) := by
  have := iTranspose_any pw ph v n b w h hn
  unfold trS trN at this
  rwa [hp] at this
theorem sTr_ok (pw ph : Int) (v : Value) (n : Nat) (b : Nat → Int) (w : World) (hp : pvB pw ph n b = true) (h : Sr .i64 w.heap.size w v n b) (hn : n ≤ 1000000000000) :
    Calls Try.prog 14 #[.agg #[.int .i64 pw, .int .i64 ph, v]] w (GaveP ph pw n (trF pw ph b) w) := by
  have := sTranspose_any pw ph v n b w h hn
  unfold trS trN at this
  rwa [hp] at this
theorem sTr_no (pw ph : Int) (v : Value) (n : Nat) (b : Nat → Int) (w : World) (hp : pvB pw ph n b = false) (h : Sr .i64 w.heap.size w v n b) (hn : n ≤ 1000000000000) :
    Calls Try.prog 14 #[.agg #[.int .i64 pw, .int .i64 ph, v]] w (GaveP 0 0 0 (trF pw ph b) w) := by
  have := sTranspose_any pw ph v n b w h hn
  unfold trS trN at this
  rwa [hp] at this
set_option maxRecDepth 100000 in
set_option maxHeartbeats 4000000 in
theorem FnTranspose_walk (a : Option Addr) (len cap : Nat) (zs : List Int) (w : World) (h : IsRow .u8 w a len cap zs) :
    Calls Try.prog 7 #[.slice a len cap] w fun e w' => e = .returned (.bool true) ∧ Below w.heap.size w w' := by
  obtain ⟨hs, hm⟩ := h.bytes
  unfold maxLen at hm
  clear h
  by_cases hl : 1048576 < len
  · clear hs
    go_enter Try.func7, Try.ntmps7
    go_wp2
    go_ret
    exact ⟨rfl, Below.refl _ _⟩
  · have HS := Lib.hid hs; clear hs
    have HB := Lib.hid (Below.refl w.heap.size w)
    go_enter Try.func7, Try.ntmps7
    go_wp2_with fail
    refine (DrawTranspose_any _ len _ _ HS.out (by omega)).mono ?_; rintro e w1 ⟨pw, ph, u, k, f, rfl, hS, hk, hw1⟩
    have zw1 : w.heap.size ≤ w1.heap.size := hw1.size
    replace HB := Lib.hid (HB.out.trans (hw1.mono (by omega)))
    clear hw1
    have hu1 := hS.one
    have SP := Lib.hid hS; clear hS
    have HN := Lib.hid (show PicB (w1.alloc (.cells #[.int .i64 0, .int .i64 0, .slice none 0 0] 25)) w1.heap.size 0 0 (.slice none 0 0) from PicB.new' rfl)
    obtain ⟨w2, hw⟩ : ∃ x, x = (w1.alloc (.cells #[.int .i64 0, .int .i64 0, .slice none 0 0] 25)).setRow w1.heap.size #[.int .i64 pw, .int .i64 ph, u] := ⟨_, rfl⟩
    have hV : PicB w2 w1.heap.size pw ph (u) := by rw [hw]; exact HN.out.setRow _ _ _
    have hw2 : Below w1.heap.size w1 w2 := by rw [hw]; exact below_setRow ((Below.refl _ _).alloc (Nat.le_refl _) _) (Nat.le_refl _) _
    have zw2 : w1.heap.size < w2.heap.size := by rw [hw]; simp
    have HW := Lib.hid hw; clear hw
    replace HB := Lib.hid (HB.out.trans (hw2.mono (by omega)))
    replace SP := Lib.hid (SP.out.below hw2 (by omega))
    have Vp := Lib.hid hV; clear hV hw2
    go_wp2_with (first | (refine storeP w1.heap.size HN.out hu1 rfl rfl rfl rfl ?_; rw [← HW.out]) | refine loadP (w1.heap.size) Vp.out rfl rfl rfl ?_)
    clear HW HN
    by_cases hok : pvB pw ph k f = true
    · have HOK := Lib.hid hok; clear hok
      refine (iTr_ok pw ph u k f _ HOK.out (SP.out.sr.mono (by omega)) (by omega)).mono ?_; rintro e w3 ⟨a1, c1, rfl, r1, hw3⟩
      have zw3 : w2.heap.size ≤ w3.heap.size := hw3.size
      replace HB := Lib.hid (HB.out.trans (hw3.mono (by omega)))
      replace SP := Lib.hid (SP.out.below hw3 (by omega))
      replace Vp := Lib.hid (Vp.out.below hw3 (by omega))
      clear hw3
      have S1 := Lib.hid r1; clear r1
      have HN := Lib.hid (show PicB (w3.alloc (.cells #[.int .i64 0, .int .i64 0, .slice none 0 0] 25)) w3.heap.size 0 0 (.slice none 0 0) from PicB.new' rfl)
      obtain ⟨w4, hw⟩ : ∃ x, x = (w3.alloc (.cells #[.int .i64 0, .int .i64 0, .slice none 0 0] 25)).setRow w3.heap.size #[.int .i64 ph, .int .i64 pw, .slice a1 k c1] := ⟨_, rfl⟩
      have hV : PicB w4 w3.heap.size ph pw (.slice a1 k c1) := by rw [hw]; exact HN.out.setRow _ _ _
      have hw4 : Below w3.heap.size w3 w4 := by rw [hw]; exact below_setRow ((Below.refl _ _).alloc (Nat.le_refl _) _) (Nat.le_refl _) _
      have zw4 : w3.heap.size < w4.heap.size := by rw [hw]; simp
      have HW := Lib.hid hw; clear hw
      replace HB := Lib.hid (HB.out.trans (hw4.mono (by omega)))
      replace SP := Lib.hid (SP.out.below hw4 (by omega))
      replace Vp := Lib.hid (Vp.out.below hw4 (by omega))
      replace S1 := Lib.hid (S1.out.below hw4 (by omega))
      have Vx := Lib.hid hV; clear hV hw4
      go_wp2_with (first | (refine storeP w3.heap.size HN.out rfl rfl rfl rfl rfl ?_; rw [← HW.out]))
      clear HW HN
      refine wp_region_log 5 (fun _ w' => Below w4.heap.size w4 w') (fun w1 w2 => Below w1.heap.size w1 w2) [fun _ v => v = .agg #[.int .i64 ph, .int .i64 pw, .slice a1 k c1], fun _ v => v = .agg #[.int .i64 pw, .int .i64 ph, u], fun w' v => ∃ a c, v = .agg #[.int .i64 ph, .int .i64 pw, .slice a (k) c] ∧ Sn .i64 w4.heap.size w'.heap.size w' (.slice a (k) c) (k) (trF pw ph f), fun _ v => v = .bool true, fun _ v => v = .bool false] (by kernel_rfl) (by kernel_rfl) (Below.refl _ _).drew ?_ ?_ ?_
      · intro V hV wq1 wq2 v hv hr
        simp only [List.mem_cons, List.not_mem_nil, or_false] at hV
        rcases hV with rfl | rfl | rfl | rfl | rfl
        · exact hv
        · exact hv
        · obtain ⟨a, c, e, h⟩ := hv; exact ⟨a, c, e, (h.below hr (Nat.le_refl _)).mono (Nat.le_refl _) hr.size⟩
        · exact hv
        · exact hv
      · refine ⟨?_, ?_, ?_, ?_, ?_, trivial⟩
        · intro vs k1 wq1 hk1 hS1 hd fb hb K hK
          replace hb : fb = _ := hb
          subst hb
          refine ifW_yes (by kernel_rfl) ?_
          refine wp_load_row _ _ rfl (w3.heap.size) rfl _ _ (0, 0) _ (Vx.out.below hS1 (by omega)) Try.underlying25 rfl (infoP _ _ _) ?_
          exact hK.out _ _ hS1 (Below.refl _ _) rfl
        · intro vs k1 wq1 hk1 hS1 hd fb hb K hK
          replace hb : fb = _ := hb
          subst hb
          refine ifW_yes (by kernel_rfl) ?_
          refine wp_load_row _ _ rfl (w1.heap.size) rfl _ _ (0, 0) _ (Vp.out.below hS1 (by omega)) Try.underlying25 rfl (infoP _ _ _) ?_
          exact hK.out _ _ hS1 (Below.refl _ _) rfl
        · intro vs k1 wq1 hk1 hS1 hd fb hb K hK
          obtain ⟨d1, _⟩ := hd
          replace hb : fb = Act.put (_) (some 13) (vs 1) := hb
          have e1 : vs 1 = .agg #[.int .i64 pw, .int .i64 ph, u] := d1
          rw [e1] at hb; clear e1 d1
          subst hb
          refine ifW_yes (by kernel_rfl) ?_
          have hz1 := hS1.size
          go_simp
          refine (sTr_ok pw ph u k f _ HOK.out ((SP.out.below hS1 (by omega)).sr.mono (by omega)) (by omega)).mono ?_; rintro e wq2 ⟨a2, c2, rfl, k2, hb2⟩
          exact hK.out _ _ (hS1.trans (hb2.mono (by omega))) hb2 ⟨a2, c2, rfl, k2.mono (by omega) (Nat.le_refl _)⟩
        · intro vs k1 wq1 hk1 hS1 hd fb hb K hK
          obtain ⟨d0, d2, _, _⟩ := hd
          replace hb : fb = Act.put (Act.put (Act.put (_) (some 12) (vs 0)) (some 14) (vs 2)) (some 14) (vs 2) := hb
          have e0 : vs 0 = .agg #[.int .i64 ph, .int .i64 pw, .slice a1 k c1] := d0
          rw [e0] at hb; clear e0 d0
          obtain ⟨a2, c2, e2, k2⟩ := d2
          rw [e2] at hb; clear e2
          subst hb
          refine ifW_yes (by kernel_rfl) ?_
          have hz1 := hS1.size
          go_simp
          refine (samePicture_yes ph pw _ _ k (trF pw ph f) (trF pw ph f) _ ((S1.out.below hS1 (by omega)).sr.mono (by omega)) k2.sr (fun _ _ => rfl) (by omega)).mono ?_; rintro e wq2 ⟨rfl, hb2⟩
          exact hK.out _ _ (hS1.trans (hb2.mono (by omega))) hb2 rfl
        · intro vs k1 wq1 hk1 hS1 hd fb hb K hK
          obtain ⟨d3, _⟩ := hd
          replace hb : fb = Act.put (_) (some 15) (vs 3) := hb
          have e3 : vs 3 = .bool true := d3
          rw [e3] at hb; clear e3 d3
          subst hb
          refine ifW_yes (by kernel_rfl) ?_
          go_simp
          exact hK.out _ _ hS1 (Below.refl _ _) rfl
      · intro vs w5 hw5 hd fb hb
        have zw5 : w4.heap.size ≤ w5.heap.size := hw5.size
        replace HB := Lib.hid (HB.out.trans (hw5.mono (by omega)))
        replace SP := Lib.hid (SP.out.below hw5 (by omega))
        replace Vp := Lib.hid (Vp.out.below hw5 (by omega))
        replace S1 := Lib.hid (S1.out.below hw5 (by omega))
        replace Vx := Lib.hid (Vx.out.below hw5 (by omega))
        obtain ⟨d0, d1, d2, d3, d4, _⟩ := hd
        replace hb : fb = Act.put (Act.put (Act.put (Act.put (Act.put (_) (some 12) (vs 0)) (some 13) (vs 1)) (some 14) (vs 2)) (some 15) (vs 3)) (some 16) (vs 4) := hb
        have e0 : vs 0 = .agg #[.int .i64 ph, .int .i64 pw, .slice a1 k c1] := d0
        rw [e0] at hb; clear e0 d0
        have e1 : vs 1 = .agg #[.int .i64 pw, .int .i64 ph, u] := d1
        rw [e1] at hb; clear e1 d1
        obtain ⟨a2, c2, e2, k2⟩ := d2
        rw [e2] at hb; clear e2
        have e3 : vs 3 = .bool true := d3
        rw [e3] at hb; clear e3 d3
        have e4 : vs 4 = .bool false := d4
        rw [e4] at hb; clear e4 d4
        subst hb
        simp only [List.drop_succ_cons, List.drop_zero, Act.put, List.setIfInBounds_toArray, List.set_cons_succ, List.set_cons_zero]
        clear hw5
        clear k2
        go_wp2_with (first | refine loadP (w1.heap.size) Vp.out rfl rfl rfl ?_)
        refine (sPictureValid_any pw ph u k f _ (SP.out.sr.mono (by omega)) (by omega)).mono ?_; rintro e w6 ⟨rfl, hw6⟩
        have zw6 : w5.heap.size ≤ w6.heap.size := hw6.size
        replace HB := Lib.hid (HB.out.trans (hw6.mono (by omega)))
        replace SP := Lib.hid (SP.out.below hw6 (by omega))
        replace Vp := Lib.hid (Vp.out.below hw6 (by omega))
        replace S1 := Lib.hid (S1.out.below hw6 (by omega))
        replace Vx := Lib.hid (Vx.out.below hw6 (by omega))
        clear hw6
        rw [HOK.out]
        obtain ⟨sv, hsv⟩ : ∃ sv, sampI pw ph k f 5 3 = sv := ⟨_, rfl⟩
        have HSX := Lib.hid ((samp_tr HOK.out).trans hsv)
        have HSV := Lib.hid hsv; clear hsv
        go_wp2_with fail
        refine wp_region_log 18 (fun _ w' => Below w6.heap.size w6 w') (fun w1 w2 => Below w1.heap.size w1 w2) [fun _ v => v = .agg #[.int .i64 ph, .int .i64 pw, .slice a1 k c1], fun w' v => ∃ a c, v = .agg #[.int .i64 pw, .int .i64 ph, .slice a (k) c] ∧ Sn .i64 w6.heap.size w'.heap.size w' (.slice a (k) c) (k) (trF ph pw (trF pw ph f)), fun _ v => v = .agg #[.int .i64 pw, .int .i64 ph, u], fun _ v => v = .bool true, fun _ v => v = .bool true, fun _ v => v = .agg #[.int .i64 ph, .int .i64 pw, .slice a1 k c1], fun _ v => v = .int .i64 sv, fun _ v => v = .agg #[.int .i64 pw, .int .i64 ph, u], fun _ v => v = .int .i64 sv, fun _ v => v = .bool true, fun _ v => v = .bool true, fun _ v => v = .bool true, fun _ v => v = .pointer (some ⟨w3.heap.size, 0, none⟩), fun _ v => v = .int .i64 ph, fun _ v => v = .pointer (some ⟨w1.heap.size, 1, none⟩), fun _ v => v = .int .i64 ph, fun _ v => v = .bool true, fun _ v => v = .bool true] (by kernel_rfl) (by kernel_rfl) (Below.refl _ _).drew ?_ ?_ ?_
        · intro V hV wq1 wq2 v hv hr
          simp only [List.mem_cons, List.not_mem_nil, or_false] at hV
          rcases hV with rfl | rfl | rfl | rfl | rfl | rfl | rfl | rfl | rfl | rfl | rfl | rfl | rfl | rfl | rfl | rfl | rfl | rfl
          · exact hv
          · obtain ⟨a, c, e, h⟩ := hv; exact ⟨a, c, e, (h.below hr (Nat.le_refl _)).mono (Nat.le_refl _) hr.size⟩
          · exact hv
          · exact hv
          · exact hv
          · exact hv
          · exact hv
          · exact hv
          · exact hv
          · exact hv
          · exact hv
          · exact hv
          · exact hv
          · exact hv
          · exact hv
          · exact hv
          · exact hv
          · exact hv
        · refine ⟨?_, ?_, ?_, ?_, ?_, ?_, ?_, ?_, ?_, ?_, ?_, ?_, ?_, ?_, ?_, ?_, ?_, ?_, trivial⟩
          · intro vs k1 wq1 hk1 hS1 hd fb hb K hK
            replace hb : fb = _ := hb
            subst hb
            refine ifW_yes (by kernel_rfl) ?_
            refine wp_load_row _ _ rfl (w3.heap.size) rfl _ _ (0, 0) _ (Vx.out.below hS1 (by omega)) Try.underlying25 rfl (infoP _ _ _) ?_
            exact hK.out _ _ hS1 (Below.refl _ _) rfl
          · intro vs k1 wq1 hk1 hS1 hd fb hb K hK
            obtain ⟨d0, _⟩ := hd
            replace hb : fb = Act.put (_) (some 27) (vs 0) := hb
            have e0 : vs 0 = .agg #[.int .i64 ph, .int .i64 pw, .slice a1 k c1] := d0
            rw [e0] at hb; clear e0 d0
            subst hb
            refine ifW_yes (by kernel_rfl) ?_
            have hz1 := hS1.size
            go_simp
            refine (iTr_ok ph pw (.slice a1 k c1) k (trF pw ph f) _ (tr_ok HOK.out).1 ((S1.out.below hS1 (by omega)).sr.mono (by omega)) (by omega)).mono ?_; rintro e wq2 ⟨a3, c3, rfl, k3, hb2⟩
            exact hK.out _ _ (hS1.trans (hb2.mono (by omega))) hb2 ⟨a3, c3, rfl, k3.mono (by omega) (Nat.le_refl _)⟩
          · intro vs k1 wq1 hk1 hS1 hd fb hb K hK
            replace hb : fb = _ := hb
            subst hb
            refine ifW_yes (by kernel_rfl) ?_
            refine wp_load_row _ _ rfl (w1.heap.size) rfl _ _ (0, 0) _ (Vp.out.below hS1 (by omega)) Try.underlying25 rfl (infoP _ _ _) ?_
            exact hK.out _ _ hS1 (Below.refl _ _) rfl
          · intro vs k1 wq1 hk1 hS1 hd fb hb K hK
            obtain ⟨d1, d2, _, _⟩ := hd
            replace hb : fb = Act.put (Act.put (Act.put (_) (some 28) (vs 1)) (some 29) (vs 2)) (some 28) (vs 1) := hb
            obtain ⟨a3, c3, e1, k3⟩ := d1
            rw [e1] at hb; clear e1
            have e2 : vs 2 = .agg #[.int .i64 pw, .int .i64 ph, u] := d2
            rw [e2] at hb; clear e2 d2
            subst hb
            refine ifW_yes (by kernel_rfl) ?_
            have hz1 := hS1.size
            go_simp
            refine (samePicture_yes pw ph _ u k _ f _ k3.sr ((SP.out.below hS1 (by omega)).sr.mono (by omega)) (tr_ok HOK.out).2 (by omega)).mono ?_; rintro e wq2 ⟨rfl, hb2⟩
            exact hK.out _ _ (hS1.trans (hb2.mono (by omega))) hb2 rfl
          · intro vs k1 wq1 hk1 hS1 hd fb hb K hK
            obtain ⟨d3, _, _⟩ := hd
            replace hb : fb = Act.put (Act.put (_) (some 30) (vs 3)) (some 30) (vs 3) := hb
            have e3 : vs 3 = .bool true := d3
            rw [e3] at hb; clear e3 d3
            subst hb
            refine ifW_yes (by kernel_rfl) ?_
            go_simp
            exact hK.out _ _ hS1 (Below.refl _ _) rfl
          · intro vs k1 wq1 hk1 hS1 hd fb hb K hK
            obtain ⟨d4, _⟩ := hd
            replace hb : fb = Act.put (_) (some 31) (vs 4) := hb
            have e4 : vs 4 = .bool true := d4
            rw [e4] at hb; clear e4 d4
            subst hb
            refine ifW_yes (by kernel_rfl) ?_
            refine wp_load_row _ _ rfl (w3.heap.size) rfl _ _ (0, 0) _ (Vx.out.below hS1 (by omega)) Try.underlying25 rfl (infoP _ _ _) ?_
            exact hK.out _ _ hS1 (Below.refl _ _) rfl
          · intro vs k1 wq1 hk1 hS1 hd fb hb K hK
            obtain ⟨d5, d4, _, _⟩ := hd
            replace hb : fb = Act.put (Act.put (Act.put (_) (some 32) (vs 5)) (some 31) (vs 4)) (some 31) (vs 4) := hb
            have e5 : vs 5 = .agg #[.int .i64 ph, .int .i64 pw, .slice a1 k c1] := d5
            rw [e5] at hb; clear e5 d5
            have e4 : vs 4 = .bool true := d4
            rw [e4] at hb; clear e4 d4
            subst hb
            refine ifW_yes (by kernel_rfl) ?_
            have hz1 := hS1.size
            go_simp
            refine (iSampleAt_any ph pw 3 5 _ k (trF pw ph f) _ ((S1.out.below hS1 (by omega)).sr.mono (by omega)) (by omega)).mono ?_; rintro e wq2 ⟨rfl, hb2⟩
            rw [HSX.out]
            exact hK.out _ _ (hS1.trans (hb2.mono (by omega))) hb2 rfl
          · intro vs k1 wq1 hk1 hS1 hd fb hb K hK
            obtain ⟨d4, _⟩ := hd
            replace hb : fb = Act.put (_) (some 31) (vs 4) := hb
            have e4 : vs 4 = .bool true := d4
            rw [e4] at hb; clear e4 d4
            subst hb
            refine ifW_yes (by kernel_rfl) ?_
            refine wp_load_row _ _ rfl (w1.heap.size) rfl _ _ (0, 0) _ (Vp.out.below hS1 (by omega)) Try.underlying25 rfl (infoP _ _ _) ?_
            exact hK.out _ _ hS1 (Below.refl _ _) rfl
          · intro vs k1 wq1 hk1 hS1 hd fb hb K hK
            obtain ⟨d7, d6, d4, _⟩ := hd
            replace hb : fb = Act.put (Act.put (Act.put (_) (some 34) (vs 7)) (some 33) (vs 6)) (some 31) (vs 4) := hb
            have e7 : vs 7 = .agg #[.int .i64 pw, .int .i64 ph, u] := d7
            rw [e7] at hb; clear e7 d7
            have e6 : vs 6 = .int .i64 sv := d6
            rw [e6] at hb; clear e6 d6
            have e4 : vs 4 = .bool true := d4
            rw [e4] at hb; clear e4 d4
            subst hb
            refine ifW_yes (by kernel_rfl) ?_
            have hz1 := hS1.size
            go_simp
            refine (iSampleAt_any pw ph 5 3 _ k f _ ((SP.out.below hS1 (by omega)).sr.mono (by omega)) (by omega)).mono ?_; rintro e wq2 ⟨rfl, hb2⟩
            rw [HSV.out]
            exact hK.out _ _ (hS1.trans (hb2.mono (by omega))) hb2 rfl
          · intro vs k1 wq1 hk1 hS1 hd fb hb K hK
            obtain ⟨d6, d8, d4, _⟩ := hd
            replace hb : fb = Act.put (Act.put (Act.put (_) (some 33) (vs 6)) (some 35) (vs 8)) (some 31) (vs 4) := hb
            have e6 : vs 6 = .int .i64 sv := d6
            rw [e6] at hb; clear e6 d6
            have e8 : vs 8 = .int .i64 sv := d8
            rw [e8] at hb; clear e8 d8
            have e4 : vs 4 = .bool true := d4
            rw [e4] at hb; clear e4 d4
            subst hb
            refine ifW_yes (by kernel_rfl) ?_
            go_simp
            exact hK.out _ _ hS1 (Below.refl _ _) rfl
          · intro vs k1 wq1 hk1 hS1 hd fb hb K hK
            obtain ⟨d4, d9, _⟩ := hd
            replace hb : fb = Act.put (Act.put (_) (some 31) (vs 4)) (some 36) (vs 9) := hb
            have e4 : vs 4 = .bool true := d4
            rw [e4] at hb; clear e4 d4
            have e9 : vs 9 = .bool true := d9
            rw [e9] at hb; clear e9 d9
            subst hb
            refine ifW_yes (by kernel_rfl) ?_
            go_simp
            exact hK.out _ _ hS1 (Below.refl _ _) rfl
          · intro vs k1 wq1 hk1 hS1 hd fb hb K hK
            obtain ⟨d10, d8, _⟩ := hd
            replace hb : fb = Act.put (Act.put (_) (some 37) (vs 10)) (some 35) (vs 8) := hb
            have e10 : vs 10 = .bool true := d10
            rw [e10] at hb; clear e10 d10
            have e8 : vs 8 = .int .i64 sv := d8
            rw [e8] at hb; clear e8 d8
            subst hb
            refine ifW_yes (by kernel_rfl) ?_
            go_simp
            exact hK.out _ _ hS1 (Below.refl _ _) rfl
          · intro vs k1 wq1 hk1 hS1 hd fb hb K hK
            obtain ⟨d11, _⟩ := hd
            replace hb : fb = Act.put (_) (some 38) (vs 11) := hb
            have e11 : vs 11 = .bool true := d11
            rw [e11] at hb; clear e11 d11
            subst hb
            refine ifW_yes (by kernel_rfl) ?_
            go_simp
            exact hK.out _ _ hS1 (Below.refl _ _) rfl
          · intro vs k1 wq1 hk1 hS1 hd fb hb K hK
            obtain ⟨d12, d11, _⟩ := hd
            replace hb : fb = Act.put (Act.put (_) (some 39) (vs 12)) (some 38) (vs 11) := hb
            have e12 : vs 12 = .pointer (some ⟨w3.heap.size, 0, none⟩) := d12
            rw [e12] at hb; clear e12 d12
            have e11 : vs 11 = .bool true := d11
            rw [e11] at hb; clear e11 d11
            subst hb
            refine ifW_yes (by kernel_rfl) ?_
            have c := (Vx.out.below hS1 (by omega)).c0
            go_simp
            exact hK.out _ _ hS1 (Below.refl _ _) rfl
          · intro vs k1 wq1 hk1 hS1 hd fb hb K hK
            obtain ⟨d11, _⟩ := hd
            replace hb : fb = Act.put (_) (some 38) (vs 11) := hb
            have e11 : vs 11 = .bool true := d11
            rw [e11] at hb; clear e11 d11
            subst hb
            refine ifW_yes (by kernel_rfl) ?_
            go_simp
            exact hK.out _ _ hS1 (Below.refl _ _) rfl
          · intro vs k1 wq1 hk1 hS1 hd fb hb K hK
            obtain ⟨d14, d11, _⟩ := hd
            replace hb : fb = Act.put (Act.put (_) (some 41) (vs 14)) (some 38) (vs 11) := hb
            have e14 : vs 14 = .pointer (some ⟨w1.heap.size, 1, none⟩) := d14
            rw [e14] at hb; clear e14 d14
            have e11 : vs 11 = .bool true := d11
            rw [e11] at hb; clear e11 d11
            subst hb
            refine ifW_yes (by kernel_rfl) ?_
            have c := (Vp.out.below hS1 (by omega)).c1
            go_simp
            exact hK.out _ _ hS1 (Below.refl _ _) rfl
          · intro vs k1 wq1 hk1 hS1 hd fb hb K hK
            obtain ⟨d13, d15, d11, _⟩ := hd
            replace hb : fb = Act.put (Act.put (Act.put (_) (some 40) (vs 13)) (some 42) (vs 15)) (some 38) (vs 11) := hb
            have e13 : vs 13 = .int .i64 ph := d13
            rw [e13] at hb; clear e13 d13
            have e15 : vs 15 = .int .i64 ph := d15
            rw [e15] at hb; clear e15 d15
            have e11 : vs 11 = .bool true := d11
            rw [e11] at hb; clear e11 d11
            subst hb
            refine ifW_yes (by kernel_rfl) ?_
            go_simp
            exact hK.out _ _ hS1 (Below.refl _ _) rfl
          · intro vs k1 wq1 hk1 hS1 hd fb hb K hK
            obtain ⟨d11, d16, _⟩ := hd
            replace hb : fb = Act.put (Act.put (_) (some 38) (vs 11)) (some 43) (vs 16) := hb
            have e11 : vs 11 = .bool true := d11
            rw [e11] at hb; clear e11 d11
            have e16 : vs 16 = .bool true := d16
            rw [e16] at hb; clear e16 d16
            subst hb
            refine ifW_yes (by kernel_rfl) ?_
            go_simp
            exact hK.out _ _ hS1 (Below.refl _ _) rfl
        · intro vs w7 hw7 hd fb hb
          have zw7 : w6.heap.size ≤ w7.heap.size := hw7.size
          replace HB := Lib.hid (HB.out.trans (hw7.mono (by omega)))
          replace SP := Lib.hid (SP.out.below hw7 (by omega))
          replace Vp := Lib.hid (Vp.out.below hw7 (by omega))
          replace S1 := Lib.hid (S1.out.below hw7 (by omega))
          replace Vx := Lib.hid (Vx.out.below hw7 (by omega))
          obtain ⟨d0, d1, d2, d3, d4, d5, d6, d7, d8, d9, d10, d11, d12, d13, d14, d15, d16, d17, _⟩ := hd
          replace hb : fb = Act.put (Act.put (Act.put (Act.put (Act.put (Act.put (Act.put (Act.put (Act.put (Act.put (Act.put (Act.put (Act.put (Act.put (Act.put (Act.put (Act.put (Act.put (_) (some 27) (vs 0)) (some 28) (vs 1)) (some 29) (vs 2)) (some 30) (vs 3)) (some 31) (vs 4)) (some 32) (vs 5)) (some 33) (vs 6)) (some 34) (vs 7)) (some 35) (vs 8)) (some 36) (vs 9)) (some 37) (vs 10)) (some 38) (vs 11)) (some 39) (vs 12)) (some 40) (vs 13)) (some 41) (vs 14)) (some 42) (vs 15)) (some 43) (vs 16)) (some 44) (vs 17) := hb
          have e0 : vs 0 = .agg #[.int .i64 ph, .int .i64 pw, .slice a1 k c1] := d0
          rw [e0] at hb; clear e0 d0
          obtain ⟨a3, c3, e1, k3⟩ := d1
          rw [e1] at hb; clear e1
          have e2 : vs 2 = .agg #[.int .i64 pw, .int .i64 ph, u] := d2
          rw [e2] at hb; clear e2 d2
          have e3 : vs 3 = .bool true := d3
          rw [e3] at hb; clear e3 d3
          have e4 : vs 4 = .bool true := d4
          rw [e4] at hb; clear e4 d4
          have e5 : vs 5 = .agg #[.int .i64 ph, .int .i64 pw, .slice a1 k c1] := d5
          rw [e5] at hb; clear e5 d5
          have e6 : vs 6 = .int .i64 sv := d6
          rw [e6] at hb; clear e6 d6
          have e7 : vs 7 = .agg #[.int .i64 pw, .int .i64 ph, u] := d7
          rw [e7] at hb; clear e7 d7
          have e8 : vs 8 = .int .i64 sv := d8
          rw [e8] at hb; clear e8 d8
          have e9 : vs 9 = .bool true := d9
          rw [e9] at hb; clear e9 d9
          have e10 : vs 10 = .bool true := d10
          rw [e10] at hb; clear e10 d10
          have e11 : vs 11 = .bool true := d11
          rw [e11] at hb; clear e11 d11
          have e12 : vs 12 = .pointer (some ⟨w3.heap.size, 0, none⟩) := d12
          rw [e12] at hb; clear e12 d12
          have e13 : vs 13 = .int .i64 ph := d13
          rw [e13] at hb; clear e13 d13
          have e14 : vs 14 = .pointer (some ⟨w1.heap.size, 1, none⟩) := d14
          rw [e14] at hb; clear e14 d14
          have e15 : vs 15 = .int .i64 ph := d15
          rw [e15] at hb; clear e15 d15
          have e16 : vs 16 = .bool true := d16
          rw [e16] at hb; clear e16 d16
          have e17 : vs 17 = .bool true := d17
          rw [e17] at hb; clear e17 d17
          subst hb
          simp only [List.drop_succ_cons, List.drop_zero, Act.put, List.setIfInBounds_toArray, List.set_cons_succ, List.set_cons_zero]
          clear hw7
          go_wp2_with fail
          go_ret
          exact ⟨rfl, HB.out⟩
    · have HOK := Lib.hid (show pvB pw ph k f = false by simpa using hok); clear hok
      refine (iTr_no pw ph u k f _ HOK.out (SP.out.sr.mono (by omega)) (by omega)).mono ?_; rintro e w3 ⟨a1, c1, rfl, r1, hw3⟩
      have zw3 : w2.heap.size ≤ w3.heap.size := hw3.size
      replace HB := Lib.hid (HB.out.trans (hw3.mono (by omega)))
      replace SP := Lib.hid (SP.out.below hw3 (by omega))
      replace Vp := Lib.hid (Vp.out.below hw3 (by omega))
      clear hw3
      have S1 := Lib.hid r1; clear r1
      have HN := Lib.hid (show PicB (w3.alloc (.cells #[.int .i64 0, .int .i64 0, .slice none 0 0] 25)) w3.heap.size 0 0 (.slice none 0 0) from PicB.new' rfl)
      obtain ⟨w4, hw⟩ : ∃ x, x = (w3.alloc (.cells #[.int .i64 0, .int .i64 0, .slice none 0 0] 25)).setRow w3.heap.size #[.int .i64 0, .int .i64 0, .slice a1 0 c1] := ⟨_, rfl⟩
      have hV : PicB w4 w3.heap.size 0 0 (.slice a1 0 c1) := by rw [hw]; exact HN.out.setRow _ _ _
      have hw4 : Below w3.heap.size w3 w4 := by rw [hw]; exact below_setRow ((Below.refl _ _).alloc (Nat.le_refl _) _) (Nat.le_refl _) _
      have zw4 : w3.heap.size < w4.heap.size := by rw [hw]; simp
      have HW := Lib.hid hw; clear hw
      replace HB := Lib.hid (HB.out.trans (hw4.mono (by omega)))
      replace SP := Lib.hid (SP.out.below hw4 (by omega))
      replace Vp := Lib.hid (Vp.out.below hw4 (by omega))
      replace S1 := Lib.hid (S1.out.below hw4 (by omega))
      have Vx := Lib.hid hV; clear hV hw4
      go_wp2_with (first | (refine storeP w3.heap.size HN.out rfl rfl rfl rfl rfl ?_; rw [← HW.out]))
      clear HW HN
      refine wp_region_log 5 (fun _ w' => Below w4.heap.size w4 w') (fun w1 w2 => Below w1.heap.size w1 w2) [fun _ v => v = .agg #[.int .i64 0, .int .i64 0, .slice a1 0 c1], fun _ v => v = .agg #[.int .i64 pw, .int .i64 ph, u], fun w' v => ∃ a c, v = .agg #[.int .i64 0, .int .i64 0, .slice a (0) c] ∧ Sn .i64 w4.heap.size w'.heap.size w' (.slice a (0) c) (0) (trF pw ph f), fun _ v => v = .bool true, fun _ v => v = .bool false] (by kernel_rfl) (by kernel_rfl) (Below.refl _ _).drew ?_ ?_ ?_
      · intro V hV wq1 wq2 v hv hr
        simp only [List.mem_cons, List.not_mem_nil, or_false] at hV
        rcases hV with rfl | rfl | rfl | rfl | rfl
        · exact hv
        · exact hv
        · obtain ⟨a, c, e, h⟩ := hv; exact ⟨a, c, e, (h.below hr (Nat.le_refl _)).mono (Nat.le_refl _) hr.size⟩
        · exact hv
        · exact hv
      · refine ⟨?_, ?_, ?_, ?_, ?_, trivial⟩
        · intro vs k1 wq1 hk1 hS1 hd fb hb K hK
          replace hb : fb = _ := hb
          subst hb
          refine ifW_yes (by kernel_rfl) ?_
          refine wp_load_row _ _ rfl (w3.heap.size) rfl _ _ (0, 0) _ (Vx.out.below hS1 (by omega)) Try.underlying25 rfl (infoP _ _ _) ?_
          exact hK.out _ _ hS1 (Below.refl _ _) rfl
        · intro vs k1 wq1 hk1 hS1 hd fb hb K hK
          replace hb : fb = _ := hb
          subst hb
          refine ifW_yes (by kernel_rfl) ?_
          refine wp_load_row _ _ rfl (w1.heap.size) rfl _ _ (0, 0) _ (Vp.out.below hS1 (by omega)) Try.underlying25 rfl (infoP _ _ _) ?_
          exact hK.out _ _ hS1 (Below.refl _ _) rfl
        · intro vs k1 wq1 hk1 hS1 hd fb hb K hK
          obtain ⟨d1, _⟩ := hd
          replace hb : fb = Act.put (_) (some 13) (vs 1) := hb
          have e1 : vs 1 = .agg #[.int .i64 pw, .int .i64 ph, u] := d1
          rw [e1] at hb; clear e1 d1
          subst hb
          refine ifW_yes (by kernel_rfl) ?_
          have hz1 := hS1.size
          go_simp
          refine (sTr_no pw ph u k f _ HOK.out ((SP.out.below hS1 (by omega)).sr.mono (by omega)) (by omega)).mono ?_; rintro e wq2 ⟨a2, c2, rfl, k2, hb2⟩
          exact hK.out _ _ (hS1.trans (hb2.mono (by omega))) hb2 ⟨a2, c2, rfl, k2.mono (by omega) (Nat.le_refl _)⟩
        · intro vs k1 wq1 hk1 hS1 hd fb hb K hK
          obtain ⟨d0, d2, _, _⟩ := hd
          replace hb : fb = Act.put (Act.put (Act.put (_) (some 12) (vs 0)) (some 14) (vs 2)) (some 14) (vs 2) := hb
          have e0 : vs 0 = .agg #[.int .i64 0, .int .i64 0, .slice a1 0 c1] := d0
          rw [e0] at hb; clear e0 d0
          obtain ⟨a2, c2, e2, k2⟩ := d2
          rw [e2] at hb; clear e2
          subst hb
          refine ifW_yes (by kernel_rfl) ?_
          have hz1 := hS1.size
          go_simp
          refine (samePicture_yes 0 0 _ _ 0 (trF pw ph f) (trF pw ph f) _ ((S1.out.below hS1 (by omega)).sr.mono (by omega)) k2.sr (fun _ _ => rfl) (by omega)).mono ?_; rintro e wq2 ⟨rfl, hb2⟩
          exact hK.out _ _ (hS1.trans (hb2.mono (by omega))) hb2 rfl
        · intro vs k1 wq1 hk1 hS1 hd fb hb K hK
          obtain ⟨d3, _⟩ := hd
          replace hb : fb = Act.put (_) (some 15) (vs 3) := hb
          have e3 : vs 3 = .bool true := d3
          rw [e3] at hb; clear e3 d3
          subst hb
          refine ifW_yes (by kernel_rfl) ?_
          go_simp
          exact hK.out _ _ hS1 (Below.refl _ _) rfl
      · intro vs w5 hw5 hd fb hb
        have zw5 : w4.heap.size ≤ w5.heap.size := hw5.size
        replace HB := Lib.hid (HB.out.trans (hw5.mono (by omega)))
        replace SP := Lib.hid (SP.out.below hw5 (by omega))
        replace Vp := Lib.hid (Vp.out.below hw5 (by omega))
        replace S1 := Lib.hid (S1.out.below hw5 (by omega))
        replace Vx := Lib.hid (Vx.out.below hw5 (by omega))
        obtain ⟨d0, d1, d2, d3, d4, _⟩ := hd
        replace hb : fb = Act.put (Act.put (Act.put (Act.put (Act.put (_) (some 12) (vs 0)) (some 13) (vs 1)) (some 14) (vs 2)) (some 15) (vs 3)) (some 16) (vs 4) := hb
        have e0 : vs 0 = .agg #[.int .i64 0, .int .i64 0, .slice a1 0 c1] := d0
        rw [e0] at hb; clear e0 d0
        have e1 : vs 1 = .agg #[.int .i64 pw, .int .i64 ph, u] := d1
        rw [e1] at hb; clear e1 d1
        obtain ⟨a2, c2, e2, k2⟩ := d2
        rw [e2] at hb; clear e2
        have e3 : vs 3 = .bool true := d3
        rw [e3] at hb; clear e3 d3
        have e4 : vs 4 = .bool false := d4
        rw [e4] at hb; clear e4 d4
        subst hb
        simp only [List.drop_succ_cons, List.drop_zero, Act.put, List.setIfInBounds_toArray, List.set_cons_succ, List.set_cons_zero]
        clear hw5
        clear k2
        go_wp2_with (first | refine loadP (w1.heap.size) Vp.out rfl rfl rfl ?_)
        refine (sPictureValid_any pw ph u k f _ (SP.out.sr.mono (by omega)) (by omega)).mono ?_; rintro e w6 ⟨rfl, hw6⟩
        have zw6 : w5.heap.size ≤ w6.heap.size := hw6.size
        replace HB := Lib.hid (HB.out.trans (hw6.mono (by omega)))
        replace SP := Lib.hid (SP.out.below hw6 (by omega))
        replace Vp := Lib.hid (Vp.out.below hw6 (by omega))
        replace S1 := Lib.hid (S1.out.below hw6 (by omega))
        replace Vx := Lib.hid (Vx.out.below hw6 (by omega))
        clear hw6
        rw [HOK.out]
        have c2 := Vx.out.c2
        go_wp2_with fail
        refine (alive_any _).mono ?_; rintro e w7 ⟨rfl, hw7⟩
        go_wp2_with fail
        go_ret
        exact ⟨rfl, HB.out.trans (hw7.mono (by have := HB.out.size; omega))⟩

end Go.Proofs.Ytinmfeflbaeodaa
