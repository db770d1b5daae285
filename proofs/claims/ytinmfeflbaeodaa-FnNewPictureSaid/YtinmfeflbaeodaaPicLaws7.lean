/- The walks of the laws on new pictures and on samples. -/
import Derived.Test.YtinmfeflbaeodaaPicLaws6
import Derived.Test.YtinmfeflbaeodaaDrawPic4
import Derived.Deep.Cut
namespace Go.Proofs.Ytinmfeflbaeodaa
open Go.RowKit

theorem new_valid {pw ph v : Int} (h : newB pw ph v = true) : pvB pw ph (pw * ph).toNat (fun _ => v) = true ∧ (8 ≤ pw ∧ pw ≤ 32) ∧ (8 ≤ ph ∧ ph ≤ 32) ∧ (0 ≤ v ∧ v ≤ 255) ∧ 64 ≤ (pw * ph).toNat ∧ (pw * ph).toNat ≤ 1024 := by
  unfold newB at h
  simp only [Bool.and_eq_true, decide_eq_true_eq] at h
  have h1 := sideB_out h.1.1
  have h2 := sideB_out h.1.2
  have hm := side_mul pw ph h.1.1 h.1.2
  refine ⟨?_, by omega, by omega, h.2, by omega, by omega⟩
  rw [pvB_in h.1.1 h.1.2 (by omega)]
  exact smpB_true (fun j _ => h.2)
theorem iNew_ok (pw ph v : Int) (w : World) (h : newB pw ph v = true) : Calls Try.prog 19 #[.int .i64 pw, .int .i64 ph, .int .i64 v] w (GaveP pw ph (pw * ph).toNat (fun _ => v) w) := by
  have := iNew_gave pw ph v w
  unfold newS newN at this
  rwa [h] at this
theorem iNew_no (pw ph v : Int) (w : World) (h : newB pw ph v = false) : Calls Try.prog 19 #[.int .i64 pw, .int .i64 ph, .int .i64 v] w (GaveP 0 0 0 (fun _ => v) w) := by
  have := iNew_gave pw ph v w
  unfold newS newN at this
  rwa [h] at this
theorem sNew_ok (pw ph v : Int) (w : World) (h : newB pw ph v = true) : Calls Try.prog 20 #[.int .i64 pw, .int .i64 ph, .int .i64 v] w (GaveP pw ph (pw * ph).toNat (fun _ => v) w) := by
  have := sNewPicture_any pw ph v w
  unfold newS newN at this
  rwa [h] at this
theorem sNew_no (pw ph v : Int) (w : World) (h : newB pw ph v = false) : Calls Try.prog 20 #[.int .i64 pw, .int .i64 ph, .int .i64 v] w (GaveP 0 0 0 (fun _ => v) w) := by
  have := sNewPicture_any pw ph v w
  unfold newS newN at this
  rwa [h] at this
theorem pv_zero (f : Nat → Int) : pvB 0 0 0 f = false := pvB_w (by omega)
set_option maxRecDepth 100000 in
set_option maxHeartbeats 4000000 in
theorem FnNewPicture_walk (a : Option Addr) (len cap : Nat) (zs : List Int) (w : World) (h : IsRow .u8 w a len cap zs) :
    Calls Try.prog 4 #[.slice a len cap] w fun e w' => e = .returned (.bool true) ∧ Below w.heap.size w w' := by
  obtain ⟨hs, hm⟩ := h.bytes
  unfold maxLen at hm
  clear h
  by_cases hl : 1048576 < len
  · clear hs
    go_enter Try.func4, Try.ntmps4
    go_wp2
    go_ret
    exact ⟨rfl, Below.refl _ _⟩
  · have HS := Lib.hid hs; clear hs
    have HB := Lib.hid (Below.refl w.heap.size w)
    go_enter Try.func4, Try.ntmps4
    go_wp2_with fail
    refine (DrawNewPicture_any _ len _ _ HS.out (by omega)).mono ?_; rintro e w1 ⟨dw, dh, dv, rfl, hw1⟩
    have zw1 : w.heap.size ≤ w1.heap.size := hw1.size
    replace HB := Lib.hid (HB.out.trans (hw1.mono (by omega)))
    clear hw1
    by_cases hok : newB dw dh dv = true
    · have HOK := Lib.hid hok; clear hok
      obtain ⟨hv, hx, hy, hz, hn1, hn2⟩ := new_valid HOK.out
      have hi1 := fun w => iNew_ok dw dh dv w HOK.out
      have hi2 := fun w => sNew_ok dw dh dv w HOK.out
      generalize (dw * dh).toNat = n at *
      have HV := Lib.hid hv; have HI1 := Lib.hid hi1; have HI2 := Lib.hid hi2; clear hv hi1 hi2
      go_wp2_with fail
      refine (HI1.out _).mono ?_; rintro e w2 ⟨a1, c1, rfl, r1, hw2⟩
      have zw2 : w1.heap.size ≤ w2.heap.size := hw2.size
      replace HB := Lib.hid (HB.out.trans (hw2.mono (by omega)))
      clear hw2
      have S1 := Lib.hid r1; clear r1
      have HN := Lib.hid (show PicB (w2.alloc (.cells #[.int .i64 0, .int .i64 0, .slice none 0 0] 25)) w2.heap.size 0 0 (.slice none 0 0) from PicB.new' rfl)
      obtain ⟨w3, hw⟩ : ∃ x, x = (w2.alloc (.cells #[.int .i64 0, .int .i64 0, .slice none 0 0] 25)).setRow w2.heap.size #[.int .i64 dw, .int .i64 dh, .slice a1 n c1] := ⟨_, rfl⟩
      have hV : PicB w3 w2.heap.size dw dh (.slice a1 n c1) := by rw [hw]; exact HN.out.setRow _ _ _
      have hw3 : Below w2.heap.size w2 w3 := by rw [hw]; exact below_setRow ((Below.refl _ _).alloc (Nat.le_refl _) _) (Nat.le_refl _) _
      have zw3 : w2.heap.size < w3.heap.size := by rw [hw]; simp
      have HW := Lib.hid hw; clear hw
      replace HB := Lib.hid (HB.out.trans (hw3.mono (by omega)))
      replace S1 := Lib.hid (S1.out.below hw3 (by omega))
      have Vp := Lib.hid hV; clear hV hw3
      go_wp2_with (first | (refine storeP w2.heap.size HN.out rfl rfl rfl rfl rfl ?_; rw [← HW.out]))
      clear HW HN
      refine wp_region_log 7 (fun _ w' => Below w3.heap.size w3 w') (fun w1 w2 => Below w1.heap.size w1 w2) [fun _ v => v = .agg #[.int .i64 dw, .int .i64 dh, .slice a1 n c1], fun _ v => v = .int .i64 dw, fun _ v => v = .int .i64 dh, fun _ v => v = .int .i64 dv, fun w' v => ∃ a c, v = .agg #[.int .i64 dw, .int .i64 dh, .slice a (n) c] ∧ Sn .i64 w3.heap.size w'.heap.size w' (.slice a (n) c) (n) (fun _ => dv), fun _ v => v = .bool true, fun _ v => v = .bool false] (by kernel_rfl) (by kernel_rfl) (Below.refl _ _).drew ?_ ?_ ?_
      · intro V hV wq1 wq2 v hv hr
        simp only [List.mem_cons, List.not_mem_nil, or_false] at hV
        rcases hV with rfl | rfl | rfl | rfl | rfl | rfl | rfl
        · exact hv
        · exact hv
        · exact hv
        · exact hv
        · obtain ⟨a, c, e, h⟩ := hv; exact ⟨a, c, e, (h.below hr (Nat.le_refl _)).mono (Nat.le_refl _) hr.size⟩
        · exact hv
        · exact hv
      · refine ⟨?_, ?_, ?_, ?_, ?_, ?_, ?_, trivial⟩
        · intro vs k1 wq1 hk1 hS1 hd fb hb K hK
          replace hb : fb = _ := hb
          subst hb
          refine ifW_yes (by kernel_rfl) ?_
          refine wp_load_row _ _ rfl (w2.heap.size) rfl _ _ (0, 0) _ (Vp.out.below hS1 (by omega)) Try.underlying25 rfl (infoP _ _ _) ?_
          exact hK.out _ _ hS1 (Below.refl _ _) rfl
        · intro vs k1 wq1 hk1 hS1 hd fb hb K hK
          replace hb : fb = _ := hb
          subst hb
          refine ifW_yes (by kernel_rfl) ?_
          go_simp
          exact hK.out _ _ hS1 (Below.refl _ _) rfl
        · intro vs k1 wq1 hk1 hS1 hd fb hb K hK
          replace hb : fb = _ := hb
          subst hb
          refine ifW_yes (by kernel_rfl) ?_
          go_simp
          exact hK.out _ _ hS1 (Below.refl _ _) rfl
        · intro vs k1 wq1 hk1 hS1 hd fb hb K hK
          replace hb : fb = _ := hb
          subst hb
          refine ifW_yes (by kernel_rfl) ?_
          go_simp
          exact hK.out _ _ hS1 (Below.refl _ _) rfl
        · intro vs k1 wq1 hk1 hS1 hd fb hb K hK
          obtain ⟨d1, d2, d3, _⟩ := hd
          replace hb : fb = Act.put (Act.put (Act.put (_) (some 22) (vs 1)) (some 23) (vs 2)) (some 24) (vs 3) := hb
          have e1 : vs 1 = .int .i64 dw := d1
          rw [e1] at hb; clear e1 d1
          have e2 : vs 2 = .int .i64 dh := d2
          rw [e2] at hb; clear e2 d2
          have e3 : vs 3 = .int .i64 dv := d3
          rw [e3] at hb; clear e3 d3
          subst hb
          refine ifW_yes (by kernel_rfl) ?_
          have hz1 := hS1.size
          go_simp
          refine (HI2.out _).mono ?_; rintro e wq2 ⟨a4, c4, rfl, k4, hb2⟩
          exact hK.out _ _ (hS1.trans (hb2.mono (by omega))) hb2 ⟨a4, c4, rfl, k4.mono (by omega) (Nat.le_refl _)⟩
        · intro vs k1 wq1 hk1 hS1 hd fb hb K hK
          obtain ⟨d0, d4, _, _⟩ := hd
          replace hb : fb = Act.put (Act.put (Act.put (_) (some 21) (vs 0)) (some 25) (vs 4)) (some 25) (vs 4) := hb
          have e0 : vs 0 = .agg #[.int .i64 dw, .int .i64 dh, .slice a1 n c1] := d0
          rw [e0] at hb; clear e0 d0
          obtain ⟨a4, c4, e4, k4⟩ := d4
          rw [e4] at hb; clear e4
          subst hb
          refine ifW_yes (by kernel_rfl) ?_
          have hz1 := hS1.size
          go_simp
          refine (samePicture_yes dw dh _ _ n (fun _ => dv) (fun _ => dv) _ ((S1.out.below hS1 (by omega)).sr.mono (by omega)) k4.sr (fun _ _ => rfl) (by omega)).mono ?_; rintro e wq2 ⟨rfl, hb2⟩
          exact hK.out _ _ (hS1.trans (hb2.mono (by omega))) hb2 rfl
        · intro vs k1 wq1 hk1 hS1 hd fb hb K hK
          obtain ⟨d5, _⟩ := hd
          replace hb : fb = Act.put (_) (some 26) (vs 5) := hb
          have e5 : vs 5 = .bool true := d5
          rw [e5] at hb; clear e5 d5
          subst hb
          refine ifW_yes (by kernel_rfl) ?_
          go_simp
          exact hK.out _ _ hS1 (Below.refl _ _) rfl
      · intro vs w4 hw4 hd fb hb
        have zw4 : w3.heap.size ≤ w4.heap.size := hw4.size
        replace HB := Lib.hid (HB.out.trans (hw4.mono (by omega)))
        replace S1 := Lib.hid (S1.out.below hw4 (by omega))
        replace Vp := Lib.hid (Vp.out.below hw4 (by omega))
        obtain ⟨d0, d1, d2, d3, d4, d5, d6, _⟩ := hd
        replace hb : fb = Act.put (Act.put (Act.put (Act.put (Act.put (Act.put (Act.put (_) (some 21) (vs 0)) (some 22) (vs 1)) (some 23) (vs 2)) (some 24) (vs 3)) (some 25) (vs 4)) (some 26) (vs 5)) (some 27) (vs 6) := hb
        have e0 : vs 0 = .agg #[.int .i64 dw, .int .i64 dh, .slice a1 n c1] := d0
        rw [e0] at hb; clear e0 d0
        have e1 : vs 1 = .int .i64 dw := d1
        rw [e1] at hb; clear e1 d1
        have e2 : vs 2 = .int .i64 dh := d2
        rw [e2] at hb; clear e2 d2
        have e3 : vs 3 = .int .i64 dv := d3
        rw [e3] at hb; clear e3 d3
        obtain ⟨a4, c4, e4, k4⟩ := d4
        rw [e4] at hb; clear e4
        have e5 : vs 5 = .bool true := d5
        rw [e5] at hb; clear e5 d5
        have e6 : vs 6 = .bool false := d6
        rw [e6] at hb; clear e6 d6
        subst hb
        simp only [List.drop_succ_cons, List.drop_zero, Act.put, List.setIfInBounds_toArray, List.set_cons_succ, List.set_cons_zero]
        clear hw4
        clear k4
        go_wp2_with (first | refine loadP (w2.heap.size) Vp.out rfl rfl rfl ?_)
        refine (iPictureValid_any dw dh _ n (fun _ => dv) _ (S1.out.sr.mono (by omega)) (by omega)).mono ?_; rintro e w5 ⟨rfl, hw5⟩
        have zw5 : w4.heap.size ≤ w5.heap.size := hw5.size
        replace HB := Lib.hid (HB.out.trans (hw5.mono (by omega)))
        replace S1 := Lib.hid (S1.out.below hw5 (by omega))
        replace Vp := Lib.hid (Vp.out.below hw5 (by omega))
        clear hw5
        rw [HV.out]
        have q0 := Vp.out.c0; have q1 := Vp.out.c1; have q2 := Vp.out.c2
        have S2 := S1.out
        obtain ⟨_, _, e, hcap, hcl⟩ := S2
        cases e
        obtain ⟨g, off, rfl, _, _, hcl⟩ := hcl (by omega)
        have HC := Lib.hid hcl; clear hcl
        have ez : (dv != dv) = false := by simp
        have ex : (dw == dw) = true := by simp
        have ey : (dh == dh) = true := by simp
        go_wp2_with fail
        go_loop [7] (fun i => ∃ k : Nat, k ≤ n ∧ i = .int .i64 k) (fun i => n - (intOf i).toNat)
        case atStart => exact ⟨0, by omega, rfl⟩
        case round =>
          obtain ⟨k, hk, rfl⟩ := hrel
          by_cases hlt : k < n
          · have hc := (HC.out k hlt).1
            have hk1 : (k : Int) < n := by omega
            go_wp2_with fail
            go_round
            case rel => exact ⟨k + 1, by omega, by go_num⟩
            case measure => simp [intOf]; omega
          · have hk1 : ¬ (k : Int) < n := by omega
            go_wp2_with fail
            go_ret
            exact ⟨rfl, HB.out⟩
    · have HOK := Lib.hid (show newB dw dh dv = false by simpa using hok); clear hok
      have HV := Lib.hid (pv_zero (fun _ => dv))
      go_wp2_with fail
      refine (iNew_no dw dh dv _ HOK.out).mono ?_; rintro e w2 ⟨a1, c1, rfl, r1, hw2⟩
      have zw2 : w1.heap.size ≤ w2.heap.size := hw2.size
      replace HB := Lib.hid (HB.out.trans (hw2.mono (by omega)))
      clear hw2
      have S1 := Lib.hid r1; clear r1
      have HN := Lib.hid (show PicB (w2.alloc (.cells #[.int .i64 0, .int .i64 0, .slice none 0 0] 25)) w2.heap.size 0 0 (.slice none 0 0) from PicB.new' rfl)
      obtain ⟨w3, hw⟩ : ∃ x, x = (w2.alloc (.cells #[.int .i64 0, .int .i64 0, .slice none 0 0] 25)).setRow w2.heap.size #[.int .i64 0, .int .i64 0, .slice a1 0 c1] := ⟨_, rfl⟩
      have hV : PicB w3 w2.heap.size 0 0 (.slice a1 0 c1) := by rw [hw]; exact HN.out.setRow _ _ _
      have hw3 : Below w2.heap.size w2 w3 := by rw [hw]; exact below_setRow ((Below.refl _ _).alloc (Nat.le_refl _) _) (Nat.le_refl _) _
      have zw3 : w2.heap.size < w3.heap.size := by rw [hw]; simp
      have HW := Lib.hid hw; clear hw
      replace HB := Lib.hid (HB.out.trans (hw3.mono (by omega)))
      replace S1 := Lib.hid (S1.out.below hw3 (by omega))
      have Vp := Lib.hid hV; clear hV hw3
      go_wp2_with (first | (refine storeP w2.heap.size HN.out rfl rfl rfl rfl rfl ?_; rw [← HW.out]))
      clear HW HN
      refine wp_region_log 7 (fun _ w' => Below w3.heap.size w3 w') (fun w1 w2 => Below w1.heap.size w1 w2) [fun _ v => v = .agg #[.int .i64 0, .int .i64 0, .slice a1 0 c1], fun _ v => v = .int .i64 dw, fun _ v => v = .int .i64 dh, fun _ v => v = .int .i64 dv, fun w' v => ∃ a c, v = .agg #[.int .i64 0, .int .i64 0, .slice a (0) c] ∧ Sn .i64 w3.heap.size w'.heap.size w' (.slice a (0) c) (0) (fun _ => dv), fun _ v => v = .bool true, fun _ v => v = .bool false] (by kernel_rfl) (by kernel_rfl) (Below.refl _ _).drew ?_ ?_ ?_
      · intro V hV wq1 wq2 v hv hr
        simp only [List.mem_cons, List.not_mem_nil, or_false] at hV
        rcases hV with rfl | rfl | rfl | rfl | rfl | rfl | rfl
        · exact hv
        · exact hv
        · exact hv
        · exact hv
        · obtain ⟨a, c, e, h⟩ := hv; exact ⟨a, c, e, (h.below hr (Nat.le_refl _)).mono (Nat.le_refl _) hr.size⟩
        · exact hv
        · exact hv
      · refine ⟨?_, ?_, ?_, ?_, ?_, ?_, ?_, trivial⟩
        · intro vs k1 wq1 hk1 hS1 hd fb hb K hK
          replace hb : fb = _ := hb
          subst hb
          refine ifW_yes (by kernel_rfl) ?_
          refine wp_load_row _ _ rfl (w2.heap.size) rfl _ _ (0, 0) _ (Vp.out.below hS1 (by omega)) Try.underlying25 rfl (infoP _ _ _) ?_
          exact hK.out _ _ hS1 (Below.refl _ _) rfl
        · intro vs k1 wq1 hk1 hS1 hd fb hb K hK
          replace hb : fb = _ := hb
          subst hb
          refine ifW_yes (by kernel_rfl) ?_
          go_simp
          exact hK.out _ _ hS1 (Below.refl _ _) rfl
        · intro vs k1 wq1 hk1 hS1 hd fb hb K hK
          replace hb : fb = _ := hb
          subst hb
          refine ifW_yes (by kernel_rfl) ?_
          go_simp
          exact hK.out _ _ hS1 (Below.refl _ _) rfl
        · intro vs k1 wq1 hk1 hS1 hd fb hb K hK
          replace hb : fb = _ := hb
          subst hb
          refine ifW_yes (by kernel_rfl) ?_
          go_simp
          exact hK.out _ _ hS1 (Below.refl _ _) rfl
        · intro vs k1 wq1 hk1 hS1 hd fb hb K hK
          obtain ⟨d1, d2, d3, _⟩ := hd
          replace hb : fb = Act.put (Act.put (Act.put (_) (some 22) (vs 1)) (some 23) (vs 2)) (some 24) (vs 3) := hb
          have e1 : vs 1 = .int .i64 dw := d1
          rw [e1] at hb; clear e1 d1
          have e2 : vs 2 = .int .i64 dh := d2
          rw [e2] at hb; clear e2 d2
          have e3 : vs 3 = .int .i64 dv := d3
          rw [e3] at hb; clear e3 d3
          subst hb
          refine ifW_yes (by kernel_rfl) ?_
          have hz1 := hS1.size
          go_simp
          refine (sNew_no dw dh dv _ HOK.out).mono ?_; rintro e wq2 ⟨a4, c4, rfl, k4, hb2⟩
          exact hK.out _ _ (hS1.trans (hb2.mono (by omega))) hb2 ⟨a4, c4, rfl, k4.mono (by omega) (Nat.le_refl _)⟩
        · intro vs k1 wq1 hk1 hS1 hd fb hb K hK
          obtain ⟨d0, d4, _, _⟩ := hd
          replace hb : fb = Act.put (Act.put (Act.put (_) (some 21) (vs 0)) (some 25) (vs 4)) (some 25) (vs 4) := hb
          have e0 : vs 0 = .agg #[.int .i64 0, .int .i64 0, .slice a1 0 c1] := d0
          rw [e0] at hb; clear e0 d0
          obtain ⟨a4, c4, e4, k4⟩ := d4
          rw [e4] at hb; clear e4
          subst hb
          refine ifW_yes (by kernel_rfl) ?_
          have hz1 := hS1.size
          go_simp
          refine (samePicture_yes 0 0 _ _ 0 (fun _ => dv) (fun _ => dv) _ ((S1.out.below hS1 (by omega)).sr.mono (by omega)) k4.sr (fun _ _ => rfl) (by omega)).mono ?_; rintro e wq2 ⟨rfl, hb2⟩
          exact hK.out _ _ (hS1.trans (hb2.mono (by omega))) hb2 rfl
        · intro vs k1 wq1 hk1 hS1 hd fb hb K hK
          obtain ⟨d5, _⟩ := hd
          replace hb : fb = Act.put (_) (some 26) (vs 5) := hb
          have e5 : vs 5 = .bool true := d5
          rw [e5] at hb; clear e5 d5
          subst hb
          refine ifW_yes (by kernel_rfl) ?_
          go_simp
          exact hK.out _ _ hS1 (Below.refl _ _) rfl
      · intro vs w4 hw4 hd fb hb
        have zw4 : w3.heap.size ≤ w4.heap.size := hw4.size
        replace HB := Lib.hid (HB.out.trans (hw4.mono (by omega)))
        replace S1 := Lib.hid (S1.out.below hw4 (by omega))
        replace Vp := Lib.hid (Vp.out.below hw4 (by omega))
        obtain ⟨d0, d1, d2, d3, d4, d5, d6, _⟩ := hd
        replace hb : fb = Act.put (Act.put (Act.put (Act.put (Act.put (Act.put (Act.put (_) (some 21) (vs 0)) (some 22) (vs 1)) (some 23) (vs 2)) (some 24) (vs 3)) (some 25) (vs 4)) (some 26) (vs 5)) (some 27) (vs 6) := hb
        have e0 : vs 0 = .agg #[.int .i64 0, .int .i64 0, .slice a1 0 c1] := d0
        rw [e0] at hb; clear e0 d0
        have e1 : vs 1 = .int .i64 dw := d1
        rw [e1] at hb; clear e1 d1
        have e2 : vs 2 = .int .i64 dh := d2
        rw [e2] at hb; clear e2 d2
        have e3 : vs 3 = .int .i64 dv := d3
        rw [e3] at hb; clear e3 d3
        obtain ⟨a4, c4, e4, k4⟩ := d4
        rw [e4] at hb; clear e4
        have e5 : vs 5 = .bool true := d5
        rw [e5] at hb; clear e5 d5
        have e6 : vs 6 = .bool false := d6
        rw [e6] at hb; clear e6 d6
        subst hb
        simp only [List.drop_succ_cons, List.drop_zero, Act.put, List.setIfInBounds_toArray, List.set_cons_succ, List.set_cons_zero]
        clear hw4
        clear k4
        go_wp2_with (first | refine loadP (w2.heap.size) Vp.out rfl rfl rfl ?_)
        refine (iPictureValid_any 0 0 _ 0 (fun _ => dv) _ (S1.out.sr.mono (by omega)) (by omega)).mono ?_; rintro e w5 ⟨rfl, hw5⟩
        have zw5 : w4.heap.size ≤ w5.heap.size := hw5.size
        replace HB := Lib.hid (HB.out.trans (hw5.mono (by omega)))
        replace S1 := Lib.hid (S1.out.below hw5 (by omega))
        replace Vp := Lib.hid (Vp.out.below hw5 (by omega))
        clear hw5
        rw [HV.out]
        have q0 := Vp.out.c0; have q1 := Vp.out.c1; have q2 := Vp.out.c2
        go_wp2_with fail
        refine (alive_any _).mono ?_; rintro e w6 ⟨rfl, hw6⟩
        go_wp2_with fail
        go_ret
        exact ⟨rfl, HB.out.trans (hw6.mono (by have := HB.out.size; omega))⟩

end Go.Proofs.Ytinmfeflbaeodaa
