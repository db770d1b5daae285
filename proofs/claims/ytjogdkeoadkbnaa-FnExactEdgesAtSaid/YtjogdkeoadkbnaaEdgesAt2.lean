/- EdgesAt of both; the walk of the exact law on it. -/
import Derived.Test.YtjogdkeoadkbnaaEdgesAt
namespace Go.Proofs.Ytjogdkeoadkbnaa
open Go.RowKit

theorem eqIntA4_yes (b : Nat → Int) (w : World) :
    Calls Try.prog 55 #[.agg #[.int .i64 (b 0), .int .i64 (b 1), .int .i64 (b 2), .int .i64 (b 3)], .agg #[.int .i64 (b 0), .int .i64 (b 1), .int .i64 (b 2), .int .i64 (b 3)]] w fun e w' => e = .returned (.bool true) ∧ Below w.heap.size w w' := by
  have v4 : (#[.int .i64 (b 0), .int .i64 (b 1), .int .i64 (b 2), .int .i64 (b 3)] : Array Value) = VN 4 b := rfl
  rw [v4]
  go_enter Try.func55, Try.ntmps55
  go_wp2
  go_loopw [5] (fun i wr => ∃ k : Nat, k ≤ 4 ∧ i = .int .i64 k ∧ Blk wr w.heap.size 4 39 b ∧ Blk wr (w.heap.size + 1) 4 39 b ∧ Below w.heap.size w wr) (fun i _ => 4 - (intOf i).toNat)
  case atStart => exact ⟨0, by omega, rfl, (Blk.new w 4 _ b).alloc _, Blk.new' (by simp), ((Below.refl _ _).alloc (Nat.le_refl _) _).alloc (by simp) _⟩
  case round =>
    obtain ⟨k, hk, rfl, hA, hB, hbel⟩ := hrel
    by_cases hlt : k < 4
    · have c1 := hA.cell k hlt
      have c2 := hB.cell k hlt
      have hk1 : (k : Int) < 4 := by omega
      have hk0 : (0 : Int) ≤ k := by omega
      go_wp2_with fail
      go_quiet (fail)
      go_wp2
      go_roundw
      case rel => exact ⟨k + 1, by omega, by go_num, hA.drewN _, hB.drewN _, below_drewN hbel _⟩
      case measure => simp [intOf]; omega
    · go_wp2
      go_ret
      exact ⟨rfl, hbel⟩
set_option maxHeartbeats 1000000 in
theorem eqEdges_yes (a b : Nat → Int) (c : Int) (u v : Bool) (w : World) :
    Calls Try.prog 31 #[.agg (edgV a b c u v), .agg (edgV a b c u v)] w fun e w' => e = .returned (.bool true) ∧ Below w.heap.size w w' := by
  obtain ⟨w0, hw0⟩ : ∃ w0, w0 = (w.alloc (.cells (edgV a b c u v) 41)).alloc (.cells (edgV a b c u v) 41) := ⟨_, rfl⟩
  have hA : EdgB w0 w.heap.size 41 (edgV a b c u v) := by rw [hw0]; exact (EdgB.new' rfl).alloc _
  have hE : EdgB w0 (w.heap.size + 1) 41 (edgV a b c u v) := by rw [hw0]; exact EdgB.new' (by simp)
  have hbel : Below w.heap.size w w0 := by rw [hw0]; exact ((Below.refl _ _).alloc (Nat.le_refl _) _).alloc (by simp) _
  have HW := Lib.hid hw0; clear hw0
  have a0 := hA.cell 0; have a1 := hA.cell 1; have a2 := hA.cell 2; have a3 := hA.cell 3
  have e0 := hE.cell 0; have e1 := hE.cell 1; have e2 := hE.cell 2; have e3 := hE.cell 3
  simp [edgV] at a0 a1 a2 a3 e0 e1 e2 e3
  have hc : (c != c) = false := by simp
  have hu : (u != u) = false := by cases u <;> rfl
  have hv : (v != v) = false := by cases v <;> rfl
  go_enter Try.func31, Try.ntmps31
  go_upto_region 1 with fail
  rw [← HW.out]
  clear HW
  go_wp2_with fail
  refine (eqIntA4_yes a _).mono ?_; rintro e w1 ⟨rfl, hb1⟩
  clear a0 a1 a2 a3 e0 e1 e2 e3
  have hA1 := hA.below hb1 hA.lt
  have hE1 := hE.below hb1 hE.lt
  have hbel1 := hbel.trans (hb1.mono hbel.size)
  have a4 := hA1.cell 4; have a5 := hA1.cell 5; have a6 := hA1.cell 6; have a7 := hA1.cell 7
  have e4 := hE1.cell 4; have e5 := hE1.cell 5; have e6 := hE1.cell 6; have e7 := hE1.cell 7
  simp [edgV] at a4 a5 a6 a7 e4 e5 e6 e7
  go_wp2_with fail
  refine (eqIntA4_yes b _).mono ?_; rintro e w2 ⟨rfl, hb2⟩
  clear a4 a5 a6 a7 e4 e5 e6 e7
  have hA2 := hA1.below hb2 hA1.lt
  have hE2 := hE1.below hb2 hE1.lt
  have hbel2 := hbel1.trans (hb2.mono hbel1.size)
  have a8 := hA2.cell 8; have a9 := hA2.cell 9; have a10 := hA2.cell 10
  have e8 := hE2.cell 8; have e9 := hE2.cell 9; have e10 := hE2.cell 10
  simp [edgV] at a8 a9 a10 e8 e9 e10
  go_wp2_with fail
  go_ret
  exact ⟨rfl, hbel2⟩
/-- The arguments name a block. -/
def eOk (pw ph : Int) (n : Nat) (b : Nat → Int) (x y top : Int) : Bool := pvB pw ph n b && decide ((0 ≤ x ∧ x < pw ∧ x % 4 = 0) ∧ (0 ≤ y ∧ y < ph ∧ y % 4 = 0) ∧ 0 ≤ top ∧ top ≤ y)
theorem eOk_out {pw ph : Int} {n : Nat} {b : Nat → Int} {x y top : Int} (h : eOk pw ph n b x y top = true) : pvB pw ph n b = true ∧ (0 ≤ x ∧ x < pw ∧ x % 4 = 0 ∧ x + 4 ≤ pw) ∧ (0 ≤ y ∧ y < ph ∧ y % 4 = 0 ∧ y + 4 ≤ ph) ∧ (0 ≤ top ∧ top ≤ y) ∧ pw ≤ 32 ∧ ph ≤ 32 := by
  unfold eOk at h
  simp only [Bool.and_eq_true, decide_eq_true_eq] at h
  have s1 := sideB_out (pvB_out h.1).1
  have s2 := sideB_out (pvB_out h.1).2.1
  have h2 := h.2
  exact ⟨h.1, by omega, by omega, by omega, by omega, by omega⟩
theorem eOk_no {pw ph : Int} {n : Nat} {b : Nat → Int} {x y top : Int} (h : eOk pw ph n b x y top = false) (hp : pvB pw ph n b = true) : ¬ ((0 ≤ x ∧ x < pw ∧ x % 4 = 0) ∧ (0 ≤ y ∧ y < ph ∧ y % 4 = 0) ∧ 0 ≤ top ∧ top ≤ y) := by
  unfold eOk at h
  rw [hp, Bool.true_and] at h
  exact of_decide_eq_false h
set_option maxRecDepth 100000 in
set_option maxHeartbeats 4000000 in
theorem iEdgesAt_ok (pw ph x y top : Int) (vv : Value) (n : Nat) (b : Nat → Int) (w : World) (h : Sr .i64 w.heap.size w vv n b) (hn : n ≤ 1000000000000) (hk : eOk pw ph n b x y top = true) :
    Calls Try.prog 30 #[.agg #[.int .i64 pw, .int .i64 ph, vv], .int .i64 x, .int .i64 y, .int .i64 top] w fun e w' => e = .returned (.agg (edgV (edA pw ph b x y top) (edL pw ph b x y) (edC pw ph b x y top) (decide (top < y)) (decide (0 < x)))) ∧ Below w.heap.size w w' := by
  obtain ⟨w0, hw0⟩ : ∃ z, z = (w.alloc (.cells #[.int .i64 pw, .int .i64 ph, vv] 24)).alloc (.cells #[.int .i64 0, .int .i64 0, .int .i64 0, .int .i64 0, .int .i64 0, .int .i64 0, .int .i64 0, .int .i64 0, .int .i64 0, .bool false, .bool false] 41) := ⟨_, rfl⟩
  have hPp : PicB w0 w.heap.size pw ph vv := by rw [hw0]; exact (PicB.new' rfl).alloc _
  have hZ : EdgB w0 (w.heap.size + 1) 41 (edgV (fun _ => 0) (fun _ => 0) 0 false false) := by rw [hw0]; exact EdgB.new' (by simp)
  have hbel : Below w.heap.size w w0 := by rw [hw0]; exact ((Below.refl _ _).alloc (Nat.le_refl _) _).alloc (by simp) _
  have HS := Lib.hid ((h.below hbel (Nat.le_refl _)).mono hbel.size)
  have hHS := h; clear h
  have HW := Lib.hid hw0; clear hw0
  obtain ⟨hp, ⟨x0, x1, x2, x3⟩, ⟨y0, y1, y2, y3⟩, ⟨t0, t1⟩, pm, qm⟩ := eOk_out hk
  have HPV := Lib.hid hp; clear hp hk
  have m1 : (x % 4 != 0) = false := by simp [x2]
  have m2 : (y % 4 != 0) = false := by simp [y2]
  clear x2 y2
  go_enter Try.func30, Try.ntmps30
  go_wp2_with (first | rw [← HW.out]; refine loadP w.heap.size hPp rfl rfl rfl ?_)
  clear HW
  refine (iPictureValid_any pw ph vv n b _ HS.out hn).mono ?_; rintro e w1 ⟨rfl, hb1⟩
  rw [HPV.out]
  have hP1 := Lib.hid (hPp.below hb1 hPp.lt)
  have hZ1 := Lib.hid (hZ.below hb1 hZ.lt)
  have hB1 := Lib.hid (hbel.trans (hb1.mono hbel.size))
  have HS1 := Lib.hid ((HS.out.below hb1 (Nat.le_refl _)).mono hb1.size)
  clear hPp hZ hbel hb1 HS hHS
  have c0 := hP1.out.c0; have c1 := hP1.out.c1
  go_wp2_with (refine loadP w.heap.size hP1.out rfl rfl rfl ?_)
  refine (iEdges_any pw ph x y top vv n b _ HS1.out HPV.out x0 x3 y0 y3 t0 t1).mono ?_; rintro e w2 ⟨rfl, hb2⟩
  have hz := Lib.hid (hZ1.out.below hb2 hZ1.out.lt)
  have hB2 := Lib.hid (hB1.out.trans (hb2.mono hB1.out.size))
  clear hb2 hZ1 hP1 hB1 c0 c1
  go_wp2_with (refine storeE (w.heap.size + 1) hz.out rfl rfl rfl rfl ?_)
  exact retE (w.heap.size + 1) Try.results30 (hz.out.setRow _) rfl rfl ⟨rfl, below_setRow hB2.out (by omega) _⟩
set_option maxRecDepth 100000 in
set_option maxHeartbeats 4000000 in
theorem iEdgesAt_no (pw ph x y top : Int) (vv : Value) (n : Nat) (b : Nat → Int) (w : World) (h : Sr .i64 w.heap.size w vv n b) (hn : n ≤ 1000000000000) (hk : eOk pw ph n b x y top = false) :
    Calls Try.prog 30 #[.agg #[.int .i64 pw, .int .i64 ph, vv], .int .i64 x, .int .i64 y, .int .i64 top] w fun e w' => e = .returned (.agg (edgV (fun _ => 0) (fun _ => 0) 0 false false)) ∧ Below w.heap.size w w' := by
  obtain ⟨w0, hw0⟩ : ∃ z, z = (w.alloc (.cells #[.int .i64 pw, .int .i64 ph, vv] 24)).alloc (.cells #[.int .i64 0, .int .i64 0, .int .i64 0, .int .i64 0, .int .i64 0, .int .i64 0, .int .i64 0, .int .i64 0, .int .i64 0, .bool false, .bool false] 41) := ⟨_, rfl⟩
  have hPp : PicB w0 w.heap.size pw ph vv := by rw [hw0]; exact (PicB.new' rfl).alloc _
  have hZ : EdgB w0 (w.heap.size + 1) 41 (edgV (fun _ => 0) (fun _ => 0) 0 false false) := by rw [hw0]; exact EdgB.new' (by simp)
  have hbel : Below w.heap.size w w0 := by rw [hw0]; exact ((Below.refl _ _).alloc (Nat.le_refl _) _).alloc (by simp) _
  have HS := Lib.hid ((h.below hbel (Nat.le_refl _)).mono hbel.size)
  have hHS := h; clear h
  have HW := Lib.hid hw0; clear hw0
  by_cases hp : pvB pw ph n b = true
  · have hno := eOk_no hk hp
    have s1 := sideB_out (pvB_out hp).1
    have s2 := sideB_out (pvB_out hp).2.1
    obtain ⟨p0, p1, pm⟩ := s1
    obtain ⟨q0, q1, qm⟩ := s2
    have HPV := Lib.hid hp; clear hp hk
    by_cases c0 : x < 0
    · have HNO := Lib.hid hno; clear hno pm qm
      go_enter Try.func30, Try.ntmps30
      go_wp2_with (first | rw [← HW.out]; refine loadP w.heap.size hPp rfl rfl rfl ?_)
      clear HW
      refine (iPictureValid_any pw ph vv n b _ HS.out hn).mono ?_; rintro e w1 ⟨rfl, hb1⟩
      rw [HPV.out]
      have hP1 := Lib.hid (hPp.below hb1 hPp.lt)
      have hZ1 := Lib.hid (hZ.below hb1 hZ.lt)
      have hB1 := Lib.hid (hbel.trans (hb1.mono hbel.size))
      have HS1 := Lib.hid ((HS.out.below hb1 (Nat.le_refl _)).mono hb1.size)
      clear hPp hZ hbel hb1 HS hHS
      have c0 := hP1.out.c0; have c1 := hP1.out.c1
      go_wp2_with (refine storeE (w.heap.size + 1) hZ1.out (a' := fun _ => 0) (b' := fun _ => 0) (c' := 0) (u' := false) (v' := false) rfl rfl rfl rfl ?_)
      have hz := hZ1.out
      exact retE (w.heap.size + 1) Try.results30 (hz.setRow _) rfl rfl ⟨rfl, below_setRow hB1.out (by omega) _⟩
    · have x0 : 0 ≤ x := by omega
      clear c0
      by_cases c1 : pw ≤ x
      · have HNO := Lib.hid hno; clear hno pm qm
        go_enter Try.func30, Try.ntmps30
        go_wp2_with (first | rw [← HW.out]; refine loadP w.heap.size hPp rfl rfl rfl ?_)
        clear HW
        refine (iPictureValid_any pw ph vv n b _ HS.out hn).mono ?_; rintro e w1 ⟨rfl, hb1⟩
        rw [HPV.out]
        have hP1 := Lib.hid (hPp.below hb1 hPp.lt)
        have hZ1 := Lib.hid (hZ.below hb1 hZ.lt)
        have hB1 := Lib.hid (hbel.trans (hb1.mono hbel.size))
        have HS1 := Lib.hid ((HS.out.below hb1 (Nat.le_refl _)).mono hb1.size)
        clear hPp hZ hbel hb1 HS hHS
        have c0 := hP1.out.c0; have c1 := hP1.out.c1
        go_wp2_with (refine storeE (w.heap.size + 1) hZ1.out (a' := fun _ => 0) (b' := fun _ => 0) (c' := 0) (u' := false) (v' := false) rfl rfl rfl rfl ?_)
        have hz := hZ1.out
        exact retE (w.heap.size + 1) Try.results30 (hz.setRow _) rfl rfl ⟨rfl, below_setRow hB1.out (by omega) _⟩
      · have x1 : x < pw := by omega
        clear c1
        by_cases c2 : ¬ x % 4 = 0
        · have m1 : (x % 4 != 0) = true := by simp [c2]
          have HNO := Lib.hid hno; clear hno pm qm c2
          go_enter Try.func30, Try.ntmps30
          go_wp2_with (first | rw [← HW.out]; refine loadP w.heap.size hPp rfl rfl rfl ?_)
          clear HW
          refine (iPictureValid_any pw ph vv n b _ HS.out hn).mono ?_; rintro e w1 ⟨rfl, hb1⟩
          rw [HPV.out]
          have hP1 := Lib.hid (hPp.below hb1 hPp.lt)
          have hZ1 := Lib.hid (hZ.below hb1 hZ.lt)
          have hB1 := Lib.hid (hbel.trans (hb1.mono hbel.size))
          have HS1 := Lib.hid ((HS.out.below hb1 (Nat.le_refl _)).mono hb1.size)
          clear hPp hZ hbel hb1 HS hHS
          have c0 := hP1.out.c0; have c1 := hP1.out.c1
          go_wp2_with (refine storeE (w.heap.size + 1) hZ1.out (a' := fun _ => 0) (b' := fun _ => 0) (c' := 0) (u' := false) (v' := false) rfl rfl rfl rfl ?_)
          have hz := hZ1.out
          exact retE (w.heap.size + 1) Try.results30 (hz.setRow _) rfl rfl ⟨rfl, below_setRow hB1.out (by omega) _⟩
        · have d2 : x % 4 = 0 := by omega
          have m1 : (x % 4 != 0) = false := by simp [d2]
          clear c2
          by_cases c3 : y < 0
          · have HNO := Lib.hid hno; clear hno pm qm
            go_enter Try.func30, Try.ntmps30
            go_wp2_with (first | rw [← HW.out]; refine loadP w.heap.size hPp rfl rfl rfl ?_)
            clear HW
            refine (iPictureValid_any pw ph vv n b _ HS.out hn).mono ?_; rintro e w1 ⟨rfl, hb1⟩
            rw [HPV.out]
            have hP1 := Lib.hid (hPp.below hb1 hPp.lt)
            have hZ1 := Lib.hid (hZ.below hb1 hZ.lt)
            have hB1 := Lib.hid (hbel.trans (hb1.mono hbel.size))
            have HS1 := Lib.hid ((HS.out.below hb1 (Nat.le_refl _)).mono hb1.size)
            clear hPp hZ hbel hb1 HS hHS
            have c0 := hP1.out.c0; have c1 := hP1.out.c1
            go_wp2_with (refine storeE (w.heap.size + 1) hZ1.out (a' := fun _ => 0) (b' := fun _ => 0) (c' := 0) (u' := false) (v' := false) rfl rfl rfl rfl ?_)
            have hz := hZ1.out
            exact retE (w.heap.size + 1) Try.results30 (hz.setRow _) rfl rfl ⟨rfl, below_setRow hB1.out (by omega) _⟩
          · have y0 : 0 ≤ y := by omega
            clear c3
            by_cases c4 : ph ≤ y
            · have HNO := Lib.hid hno; clear hno pm qm
              go_enter Try.func30, Try.ntmps30
              go_wp2_with (first | rw [← HW.out]; refine loadP w.heap.size hPp rfl rfl rfl ?_)
              clear HW
              refine (iPictureValid_any pw ph vv n b _ HS.out hn).mono ?_; rintro e w1 ⟨rfl, hb1⟩
              rw [HPV.out]
              have hP1 := Lib.hid (hPp.below hb1 hPp.lt)
              have hZ1 := Lib.hid (hZ.below hb1 hZ.lt)
              have hB1 := Lib.hid (hbel.trans (hb1.mono hbel.size))
              have HS1 := Lib.hid ((HS.out.below hb1 (Nat.le_refl _)).mono hb1.size)
              clear hPp hZ hbel hb1 HS hHS
              have c0 := hP1.out.c0; have c1 := hP1.out.c1
              go_wp2_with (refine storeE (w.heap.size + 1) hZ1.out (a' := fun _ => 0) (b' := fun _ => 0) (c' := 0) (u' := false) (v' := false) rfl rfl rfl rfl ?_)
              have hz := hZ1.out
              exact retE (w.heap.size + 1) Try.results30 (hz.setRow _) rfl rfl ⟨rfl, below_setRow hB1.out (by omega) _⟩
            · have y1 : y < ph := by omega
              clear c4
              by_cases c5 : ¬ y % 4 = 0
              · have m2 : (y % 4 != 0) = true := by simp [c5]
                have HNO := Lib.hid hno; clear hno pm qm c5
                go_enter Try.func30, Try.ntmps30
                go_wp2_with (first | rw [← HW.out]; refine loadP w.heap.size hPp rfl rfl rfl ?_)
                clear HW
                refine (iPictureValid_any pw ph vv n b _ HS.out hn).mono ?_; rintro e w1 ⟨rfl, hb1⟩
                rw [HPV.out]
                have hP1 := Lib.hid (hPp.below hb1 hPp.lt)
                have hZ1 := Lib.hid (hZ.below hb1 hZ.lt)
                have hB1 := Lib.hid (hbel.trans (hb1.mono hbel.size))
                have HS1 := Lib.hid ((HS.out.below hb1 (Nat.le_refl _)).mono hb1.size)
                clear hPp hZ hbel hb1 HS hHS
                have c0 := hP1.out.c0; have c1 := hP1.out.c1
                go_wp2_with (refine storeE (w.heap.size + 1) hZ1.out (a' := fun _ => 0) (b' := fun _ => 0) (c' := 0) (u' := false) (v' := false) rfl rfl rfl rfl ?_)
                have hz := hZ1.out
                exact retE (w.heap.size + 1) Try.results30 (hz.setRow _) rfl rfl ⟨rfl, below_setRow hB1.out (by omega) _⟩
              · have d5 : y % 4 = 0 := by omega
                have m2 : (y % 4 != 0) = false := by simp [d5]
                clear c5
                by_cases c6 : top < 0
                · have HNO := Lib.hid hno; clear hno pm qm
                  go_enter Try.func30, Try.ntmps30
                  go_wp2_with (first | rw [← HW.out]; refine loadP w.heap.size hPp rfl rfl rfl ?_)
                  clear HW
                  refine (iPictureValid_any pw ph vv n b _ HS.out hn).mono ?_; rintro e w1 ⟨rfl, hb1⟩
                  rw [HPV.out]
                  have hP1 := Lib.hid (hPp.below hb1 hPp.lt)
                  have hZ1 := Lib.hid (hZ.below hb1 hZ.lt)
                  have hB1 := Lib.hid (hbel.trans (hb1.mono hbel.size))
                  have HS1 := Lib.hid ((HS.out.below hb1 (Nat.le_refl _)).mono hb1.size)
                  clear hPp hZ hbel hb1 HS hHS
                  have c0 := hP1.out.c0; have c1 := hP1.out.c1
                  go_wp2_with (refine storeE (w.heap.size + 1) hZ1.out (a' := fun _ => 0) (b' := fun _ => 0) (c' := 0) (u' := false) (v' := false) rfl rfl rfl rfl ?_)
                  have hz := hZ1.out
                  exact retE (w.heap.size + 1) Try.results30 (hz.setRow _) rfl rfl ⟨rfl, below_setRow hB1.out (by omega) _⟩
                · have t0 : 0 ≤ top := by omega
                  clear c6
                  have t1 : y < top := by omega
                  have HNO := Lib.hid hno; clear hno pm qm d2 d5
                  go_enter Try.func30, Try.ntmps30
                  go_wp2_with (first | rw [← HW.out]; refine loadP w.heap.size hPp rfl rfl rfl ?_)
                  clear HW
                  refine (iPictureValid_any pw ph vv n b _ HS.out hn).mono ?_; rintro e w1 ⟨rfl, hb1⟩
                  rw [HPV.out]
                  have hP1 := Lib.hid (hPp.below hb1 hPp.lt)
                  have hZ1 := Lib.hid (hZ.below hb1 hZ.lt)
                  have hB1 := Lib.hid (hbel.trans (hb1.mono hbel.size))
                  have HS1 := Lib.hid ((HS.out.below hb1 (Nat.le_refl _)).mono hb1.size)
                  clear hPp hZ hbel hb1 HS hHS
                  have c0 := hP1.out.c0; have c1 := hP1.out.c1
                  go_wp2_with (refine storeE (w.heap.size + 1) hZ1.out (a' := fun _ => 0) (b' := fun _ => 0) (c' := 0) (u' := false) (v' := false) rfl rfl rfl rfl ?_)
                  have hz := hZ1.out
                  exact retE (w.heap.size + 1) Try.results30 (hz.setRow _) rfl rfl ⟨rfl, below_setRow hB1.out (by omega) _⟩
  · have hp : pvB pw ph n b = false := by simpa using hp
    have HPV := Lib.hid hp; clear hp hk
    go_enter Try.func30, Try.ntmps30
    go_wp2_with (first | rw [← HW.out]; refine loadP w.heap.size hPp rfl rfl rfl ?_)
    clear HW
    refine (iPictureValid_any pw ph vv n b _ HS.out hn).mono ?_; rintro e w1 ⟨rfl, hb1⟩
    rw [HPV.out]
    have hP1 := Lib.hid (hPp.below hb1 hPp.lt)
    have hZ1 := Lib.hid (hZ.below hb1 hZ.lt)
    have hB1 := Lib.hid (hbel.trans (hb1.mono hbel.size))
    have HS1 := Lib.hid ((HS.out.below hb1 (Nat.le_refl _)).mono hb1.size)
    clear hPp hZ hbel hb1 HS hHS
    have c0 := hP1.out.c0; have c1 := hP1.out.c1
    go_wp2_with (refine storeE (w.heap.size + 1) hZ1.out (a' := fun _ => 0) (b' := fun _ => 0) (c' := 0) (u' := false) (v' := false) rfl rfl rfl rfl ?_)
    have hz := hZ1.out
    exact retE (w.heap.size + 1) Try.results30 (hz.setRow _) rfl rfl ⟨rfl, below_setRow hB1.out (by omega) _⟩
set_option maxRecDepth 100000 in
set_option maxHeartbeats 4000000 in
theorem sEdgesAt_ok (pw ph x y top : Int) (vv : Value) (n : Nat) (b : Nat → Int) (w : World) (h : Sr .i64 w.heap.size w vv n b) (hn : n ≤ 1000000000000) (hk : eOk pw ph n b x y top = true) :
    Calls Try.prog 29 #[.agg #[.int .i64 pw, .int .i64 ph, vv], .int .i64 x, .int .i64 y, .int .i64 top] w fun e w' => e = .returned (.agg (edgV (edA pw ph b x y top) (edL pw ph b x y) (edC pw ph b x y top) (decide (top < y)) (decide (0 < x)))) ∧ Below w.heap.size w w' := by
  obtain ⟨w0, hw0⟩ : ∃ z, z = (w.alloc (.cells #[.int .i64 pw, .int .i64 ph, vv] 24)).alloc (.cells #[.int .i64 0, .int .i64 0, .int .i64 0, .int .i64 0, .int .i64 0, .int .i64 0, .int .i64 0, .int .i64 0, .int .i64 0, .bool false, .bool false] 41) := ⟨_, rfl⟩
  have hPp : PicB w0 w.heap.size pw ph vv := by rw [hw0]; exact (PicB.new' rfl).alloc _
  have hZ : EdgB w0 (w.heap.size + 1) 41 (edgV (fun _ => 0) (fun _ => 0) 0 false false) := by rw [hw0]; exact EdgB.new' (by simp)
  have hbel : Below w.heap.size w w0 := by rw [hw0]; exact ((Below.refl _ _).alloc (Nat.le_refl _) _).alloc (by simp) _
  have HS := Lib.hid ((h.below hbel (Nat.le_refl _)).mono hbel.size)
  have hHS := h; clear h
  have HW := Lib.hid hw0; clear hw0
  obtain ⟨hp, ⟨x0, x1, x2, x3⟩, ⟨y0, y1, y2, y3⟩, ⟨t0, t1⟩, pm, qm⟩ := eOk_out hk
  have HPV := Lib.hid hp; clear hp hk
  have m1 : (x % 4 != 0) = false := by simp [x2]
  have m2 : (y % 4 != 0) = false := by simp [y2]
  clear x2 y2
  go_enter Try.func29, Try.ntmps29
  go_wp2_with (first | rw [← HW.out]; refine loadP w.heap.size hPp rfl rfl rfl ?_)
  clear HW
  refine (sPictureValid_any pw ph vv n b _ HS.out hn).mono ?_; rintro e w1 ⟨rfl, hb1⟩
  rw [HPV.out]
  have hP1 := Lib.hid (hPp.below hb1 hPp.lt)
  have hZ1 := Lib.hid (hZ.below hb1 hZ.lt)
  have hB1 := Lib.hid (hbel.trans (hb1.mono hbel.size))
  have HS1 := Lib.hid ((HS.out.below hb1 (Nat.le_refl _)).mono hb1.size)
  clear hPp hZ hbel hb1 HS hHS
  have c0 := hP1.out.c0; have c1 := hP1.out.c1
  go_wp2_with fail
  refine (l1In_yes _ _ _ _ (by omega) (by omega)).mono ?_; rintro e _ ⟨rfl, rfl⟩
  go_wp2_with fail
  refine (l1In_yes _ _ _ _ (by omega) (by omega)).mono ?_; rintro e _ ⟨rfl, rfl⟩
  go_wp2_with fail
  refine (l1In_yes _ _ _ _ (by omega) (by omega)).mono ?_; rintro e _ ⟨rfl, rfl⟩
  go_wp2_with (refine loadP w.heap.size hP1.out rfl rfl rfl ?_)
  refine (sEdges_any pw ph x y top vv n b _ HS1.out HPV.out x0 x3 y0 y3 t0 t1).mono ?_; rintro e w2 ⟨rfl, hb2⟩
  have hz := Lib.hid (hZ1.out.below hb2 hZ1.out.lt)
  have hB2 := Lib.hid (hB1.out.trans (hb2.mono hB1.out.size))
  clear hb2 hZ1 hP1 hB1 c0 c1
  go_wp2_with (refine storeE (w.heap.size + 1) hz.out rfl rfl rfl rfl ?_)
  exact retE (w.heap.size + 1) Try.results29 (hz.out.setRow _) rfl rfl ⟨rfl, below_setRow hB2.out (by omega) _⟩
set_option maxRecDepth 100000 in
set_option maxHeartbeats 4000000 in
theorem sEdgesAt_no (pw ph x y top : Int) (vv : Value) (n : Nat) (b : Nat → Int) (w : World) (h : Sr .i64 w.heap.size w vv n b) (hn : n ≤ 1000000000000) (hk : eOk pw ph n b x y top = false) :
    Calls Try.prog 29 #[.agg #[.int .i64 pw, .int .i64 ph, vv], .int .i64 x, .int .i64 y, .int .i64 top] w fun e w' => e = .returned (.agg (edgV (fun _ => 0) (fun _ => 0) 0 false false)) ∧ Below w.heap.size w w' := by
  obtain ⟨w0, hw0⟩ : ∃ z, z = (w.alloc (.cells #[.int .i64 pw, .int .i64 ph, vv] 24)).alloc (.cells #[.int .i64 0, .int .i64 0, .int .i64 0, .int .i64 0, .int .i64 0, .int .i64 0, .int .i64 0, .int .i64 0, .int .i64 0, .bool false, .bool false] 41) := ⟨_, rfl⟩
  have hPp : PicB w0 w.heap.size pw ph vv := by rw [hw0]; exact (PicB.new' rfl).alloc _
  have hZ : EdgB w0 (w.heap.size + 1) 41 (edgV (fun _ => 0) (fun _ => 0) 0 false false) := by rw [hw0]; exact EdgB.new' (by simp)
  have hbel : Below w.heap.size w w0 := by rw [hw0]; exact ((Below.refl _ _).alloc (Nat.le_refl _) _).alloc (by simp) _
  have HS := Lib.hid ((h.below hbel (Nat.le_refl _)).mono hbel.size)
  have hHS := h; clear h
  have HW := Lib.hid hw0; clear hw0
  by_cases hp : pvB pw ph n b = true
  · have hno := eOk_no hk hp
    have s1 := sideB_out (pvB_out hp).1
    have s2 := sideB_out (pvB_out hp).2.1
    obtain ⟨p0, p1, pm⟩ := s1
    obtain ⟨q0, q1, qm⟩ := s2
    have HPV := Lib.hid hp; clear hp hk
    by_cases c0 : x < 0 ∨ pw - 4 < x
    · have HNO := Lib.hid hno; clear hno
      go_enter Try.func29, Try.ntmps29
      go_wp2_with (first | rw [← HW.out]; refine loadP w.heap.size hPp rfl rfl rfl ?_)
      clear HW
      refine (sPictureValid_any pw ph vv n b _ HS.out hn).mono ?_; rintro e w1 ⟨rfl, hb1⟩
      rw [HPV.out]
      have hP1 := Lib.hid (hPp.below hb1 hPp.lt)
      have hZ1 := Lib.hid (hZ.below hb1 hZ.lt)
      have hB1 := Lib.hid (hbel.trans (hb1.mono hbel.size))
      have HS1 := Lib.hid ((HS.out.below hb1 (Nat.le_refl _)).mono hb1.size)
      clear hPp hZ hbel hb1 HS hHS
      have c0 := hP1.out.c0; have c1 := hP1.out.c1
      go_wp2_with fail
      refine (l1In_no _ _ _ _ (by omega)).mono ?_; rintro e _ ⟨rfl, rfl⟩
      go_wp2_with (refine storeE (w.heap.size + 1) hZ1.out (a' := fun _ => 0) (b' := fun _ => 0) (c' := 0) (u' := false) (v' := false) rfl rfl rfl rfl ?_)
      have hz := hZ1.out
      exact retE (w.heap.size + 1) Try.results29 (hz.setRow _) rfl rfl ⟨rfl, below_setRow hB1.out (by omega) _⟩
    · have x0 : 0 ≤ x := by omega
      have x1 : x ≤ pw - 4 := by omega
      clear c0
      by_cases c1 : y < 0 ∨ ph - 4 < y
      · have HNO := Lib.hid hno; clear hno
        go_enter Try.func29, Try.ntmps29
        go_wp2_with (first | rw [← HW.out]; refine loadP w.heap.size hPp rfl rfl rfl ?_)
        clear HW
        refine (sPictureValid_any pw ph vv n b _ HS.out hn).mono ?_; rintro e w1 ⟨rfl, hb1⟩
        rw [HPV.out]
        have hP1 := Lib.hid (hPp.below hb1 hPp.lt)
        have hZ1 := Lib.hid (hZ.below hb1 hZ.lt)
        have hB1 := Lib.hid (hbel.trans (hb1.mono hbel.size))
        have HS1 := Lib.hid ((HS.out.below hb1 (Nat.le_refl _)).mono hb1.size)
        clear hPp hZ hbel hb1 HS hHS
        have c0 := hP1.out.c0; have c1 := hP1.out.c1
        go_wp2_with fail
        refine (l1In_yes _ _ _ _ (by omega) (by omega)).mono ?_; rintro e _ ⟨rfl, rfl⟩
        go_wp2_with fail
        refine (l1In_no _ _ _ _ (by omega)).mono ?_; rintro e _ ⟨rfl, rfl⟩
        go_wp2_with (refine storeE (w.heap.size + 1) hZ1.out (a' := fun _ => 0) (b' := fun _ => 0) (c' := 0) (u' := false) (v' := false) rfl rfl rfl rfl ?_)
        have hz := hZ1.out
        exact retE (w.heap.size + 1) Try.results29 (hz.setRow _) rfl rfl ⟨rfl, below_setRow hB1.out (by omega) _⟩
      · have y0 : 0 ≤ y := by omega
        have y1 : y ≤ ph - 4 := by omega
        clear c1
        by_cases c2 : ¬ x % 4 = 0
        · have m1 : (x % 4 != 0) = true := by simp [c2]
          have HNO := Lib.hid hno; clear hno c2
          go_enter Try.func29, Try.ntmps29
          go_wp2_with (first | rw [← HW.out]; refine loadP w.heap.size hPp rfl rfl rfl ?_)
          clear HW
          refine (sPictureValid_any pw ph vv n b _ HS.out hn).mono ?_; rintro e w1 ⟨rfl, hb1⟩
          rw [HPV.out]
          have hP1 := Lib.hid (hPp.below hb1 hPp.lt)
          have hZ1 := Lib.hid (hZ.below hb1 hZ.lt)
          have hB1 := Lib.hid (hbel.trans (hb1.mono hbel.size))
          have HS1 := Lib.hid ((HS.out.below hb1 (Nat.le_refl _)).mono hb1.size)
          clear hPp hZ hbel hb1 HS hHS
          have c0 := hP1.out.c0; have c1 := hP1.out.c1
          go_wp2_with fail
          refine (l1In_yes _ _ _ _ (by omega) (by omega)).mono ?_; rintro e _ ⟨rfl, rfl⟩
          go_wp2_with fail
          refine (l1In_yes _ _ _ _ (by omega) (by omega)).mono ?_; rintro e _ ⟨rfl, rfl⟩
          go_wp2_with (refine storeE (w.heap.size + 1) hZ1.out (a' := fun _ => 0) (b' := fun _ => 0) (c' := 0) (u' := false) (v' := false) rfl rfl rfl rfl ?_)
          have hz := hZ1.out
          exact retE (w.heap.size + 1) Try.results29 (hz.setRow _) rfl rfl ⟨rfl, below_setRow hB1.out (by omega) _⟩
        · have d2 : x % 4 = 0 := by omega
          have m1 : (x % 4 != 0) = false := by simp [d2]
          clear c2
          by_cases c3 : ¬ y % 4 = 0
          · have m2 : (y % 4 != 0) = true := by simp [c3]
            have HNO := Lib.hid hno; clear hno c3 d2
            go_enter Try.func29, Try.ntmps29
            go_wp2_with (first | rw [← HW.out]; refine loadP w.heap.size hPp rfl rfl rfl ?_)
            clear HW
            refine (sPictureValid_any pw ph vv n b _ HS.out hn).mono ?_; rintro e w1 ⟨rfl, hb1⟩
            rw [HPV.out]
            have hP1 := Lib.hid (hPp.below hb1 hPp.lt)
            have hZ1 := Lib.hid (hZ.below hb1 hZ.lt)
            have hB1 := Lib.hid (hbel.trans (hb1.mono hbel.size))
            have HS1 := Lib.hid ((HS.out.below hb1 (Nat.le_refl _)).mono hb1.size)
            clear hPp hZ hbel hb1 HS hHS
            have c0 := hP1.out.c0; have c1 := hP1.out.c1
            go_wp2_with fail
            refine (l1In_yes _ _ _ _ (by omega) (by omega)).mono ?_; rintro e _ ⟨rfl, rfl⟩
            go_wp2_with fail
            refine (l1In_yes _ _ _ _ (by omega) (by omega)).mono ?_; rintro e _ ⟨rfl, rfl⟩
            go_wp2_with (refine storeE (w.heap.size + 1) hZ1.out (a' := fun _ => 0) (b' := fun _ => 0) (c' := 0) (u' := false) (v' := false) rfl rfl rfl rfl ?_)
            have hz := hZ1.out
            exact retE (w.heap.size + 1) Try.results29 (hz.setRow _) rfl rfl ⟨rfl, below_setRow hB1.out (by omega) _⟩
          · have d3 : y % 4 = 0 := by omega
            have m2 : (y % 4 != 0) = false := by simp [d3]
            clear c3
            have ht : top < 0 ∨ y < top := by omega
            have HT := Lib.hid ht; have HNO := Lib.hid hno; clear ht hno d2 d3
            go_enter Try.func29, Try.ntmps29
            go_wp2_with (first | rw [← HW.out]; refine loadP w.heap.size hPp rfl rfl rfl ?_)
            clear HW
            refine (sPictureValid_any pw ph vv n b _ HS.out hn).mono ?_; rintro e w1 ⟨rfl, hb1⟩
            rw [HPV.out]
            have hP1 := Lib.hid (hPp.below hb1 hPp.lt)
            have hZ1 := Lib.hid (hZ.below hb1 hZ.lt)
            have hB1 := Lib.hid (hbel.trans (hb1.mono hbel.size))
            have HS1 := Lib.hid ((HS.out.below hb1 (Nat.le_refl _)).mono hb1.size)
            clear hPp hZ hbel hb1 HS hHS
            have c0 := hP1.out.c0; have c1 := hP1.out.c1
            go_wp2_with fail
            refine (l1In_yes _ _ _ _ (by omega) (by omega)).mono ?_; rintro e _ ⟨rfl, rfl⟩
            go_wp2_with fail
            refine (l1In_yes _ _ _ _ (by omega) (by omega)).mono ?_; rintro e _ ⟨rfl, rfl⟩
            go_wp2_with fail
            refine (l1In_no _ _ _ _ (by have := HT.out; omega)).mono ?_; rintro e _ ⟨rfl, rfl⟩
            go_wp2_with (refine storeE (w.heap.size + 1) hZ1.out (a' := fun _ => 0) (b' := fun _ => 0) (c' := 0) (u' := false) (v' := false) rfl rfl rfl rfl ?_)
            have hz := hZ1.out
            exact retE (w.heap.size + 1) Try.results29 (hz.setRow _) rfl rfl ⟨rfl, below_setRow hB1.out (by omega) _⟩
  · have hp : pvB pw ph n b = false := by simpa using hp
    have HPV := Lib.hid hp; clear hp hk
    go_enter Try.func29, Try.ntmps29
    go_wp2_with (first | rw [← HW.out]; refine loadP w.heap.size hPp rfl rfl rfl ?_)
    clear HW
    refine (sPictureValid_any pw ph vv n b _ HS.out hn).mono ?_; rintro e w1 ⟨rfl, hb1⟩
    rw [HPV.out]
    have hP1 := Lib.hid (hPp.below hb1 hPp.lt)
    have hZ1 := Lib.hid (hZ.below hb1 hZ.lt)
    have hB1 := Lib.hid (hbel.trans (hb1.mono hbel.size))
    have HS1 := Lib.hid ((HS.out.below hb1 (Nat.le_refl _)).mono hb1.size)
    clear hPp hZ hbel hb1 HS hHS
    have c0 := hP1.out.c0; have c1 := hP1.out.c1
    go_wp2_with (refine storeE (w.heap.size + 1) hZ1.out (a' := fun _ => 0) (b' := fun _ => 0) (c' := 0) (u' := false) (v' := false) rfl rfl rfl rfl ?_)
    have hz := hZ1.out
    exact retE (w.heap.size + 1) Try.results29 (hz.setRow _) rfl rfl ⟨rfl, below_setRow hB1.out (by omega) _⟩
theorem edgesAt_both (pw ph x y top : Int) (n : Nat) (b : Nat → Int) (hn : n ≤ 1000000000000) : ∃ (ea eb : Nat → Int) (c : Int) (u v : Bool),
    (∀ w vv, Sr .i64 w.heap.size w vv n b → Calls Try.prog 29 #[.agg #[.int .i64 pw, .int .i64 ph, vv], .int .i64 x, .int .i64 y, .int .i64 top] w fun e w' => e = .returned (.agg (edgV ea eb c u v)) ∧ Below w.heap.size w w') ∧
    (∀ w vv, Sr .i64 w.heap.size w vv n b → Calls Try.prog 30 #[.agg #[.int .i64 pw, .int .i64 ph, vv], .int .i64 x, .int .i64 y, .int .i64 top] w fun e w' => e = .returned (.agg (edgV ea eb c u v)) ∧ Below w.heap.size w w') := by
  cases h : eOk pw ph n b x y top with
  | true => exact ⟨_, _, _, _, _, fun w vv hs => sEdgesAt_ok pw ph x y top vv n b w hs hn h, fun w vv hs => iEdgesAt_ok pw ph x y top vv n b w hs hn h⟩
  | false => exact ⟨_, _, _, _, _, fun w vv hs => sEdgesAt_no pw ph x y top vv n b w hs hn h, fun w vv hs => iEdgesAt_no pw ph x y top vv n b w hs hn h⟩
set_option maxRecDepth 100000 in
set_option maxHeartbeats 2000000 in
theorem FnExactEdgesAt_walk (pw ph : Int) (pa : Option Addr) (pl pc : Nat) (pz : List Int) (x y top : Int) (w : World) (hp : IsPic w pw ph pa pl pc pz) (_hx : (Lit.int .i64 x).wf = true) (_hy : (Lit.int .i64 y).wf = true) (_ht : (Lit.int .i64 top).wf = true) :
    Calls Try.prog 9 #[.agg #[.int .i64 pw, .int .i64 ph, .slice pa pl pc], .int .i64 x, .int .i64 y, .int .i64 top] w fun e w' => e = .returned (.bool true) ∧ Below w.heap.size w w' := by
  obtain ⟨hsp, hmp, _⟩ := hp.2.2.sr
  generalize (fun i => pz.getD i 0) = pb at *
  clear hp
  obtain ⟨w0, hw0⟩ : ∃ w0, w0 = w.alloc (.cells #[.int .i64 pw, .int .i64 ph, .slice pa pl pc] 29) := ⟨_, rfl⟩
  have hLp : PicL w0 (w.heap.size + 0) pw ph (.slice pa pl pc) := by rw [hw0]; exact PicL.new' rfl
  have hbel : Below w.heap.size w w0 := by rw [hw0]; exact (Below.refl _ _).alloc (Nat.le_refl _) _
  have hs0 : w.heap.size + 0 < w0.heap.size := by rw [hw0]; simp
  have Ap := Lib.hid (hsp.below hbel (Nat.le_refl _)); clear hsp
  have Lp := Lib.hid hLp; clear hLp
  have HB := Lib.hid hbel; clear hbel
  have HW := Lib.hid hw0; clear hw0
  go_enter Try.func9, Try.ntmps9
  go_wp2_with fail
  rw [← HW.out]
  clear HW
  go_wp2_with (refine loadL (w.heap.size + 0) Lp.out rfl rfl rfl ?_)
  refine (szPicture_any _ _ _ _ _ _ _ hmp (by omega) (by omega)).mono ?_; rintro e w1 ⟨rfl, hw1⟩
  have zw1 : w0.heap.size ≤ w1.heap.size := hw1.size
  replace Ap := Lib.hid (Ap.out.below hw1 (by omega))
  replace Lp := Lib.hid (Lp.out.below hw1 (by omega))
  replace HB := Lib.hid (HB.out.trans (hw1.mono (by omega)))
  clear hw1
  by_cases hlp : 1048576 < pl
  · have hneg : leftI 1048576 pl < 0 := by unfold leftI; rw [if_pos (by omega)]; omega
    go_wp2_with fail
    go_ret
    exact ⟨rfl, HB.out⟩
  · obtain ⟨q0, hq0⟩ : ∃ q : Int, leftI 1048576 pl = q := ⟨_, rfl⟩
    rw [hq0]
    have hq0a : 0 ≤ q0 ∧ q0 = 1048576 - pl := by rw [← hq0]; unfold leftI; rw [if_neg (by omega)]; omega
    clear hq0
    have hq00 : 0 ≤ q0 := hq0a.1
    have hq01 : q0 ≤ 1048576 := by omega
    have hlp : pl ≤ 1048576 := by omega
    clear hq0a
    obtain ⟨ea, eb, c, u, v, hs, hi⟩ := edgesAt_both pw ph x y top pl pb (by omega)
    have HS := Lib.hid hs; have HI := Lib.hid hi; clear hs hi
    go_wp2_with (refine loadL (w.heap.size + 0) Lp.out rfl rfl rfl ?_)
    refine (toPicture_any _ _ _ pl pb _ (Ap.out.mono (by omega)) (by omega) rfl).mono ?_; rintro e w2 ⟨g1, rfl, k1, b1, hw2⟩
    have zw2 : w1.heap.size ≤ w2.heap.size := hw2.size
    replace Ap := Lib.hid (Ap.out.below hw2 (by omega))
    replace Lp := Lib.hid (Lp.out.below hw2 (by omega))
    replace HB := Lib.hid (HB.out.trans (hw2.mono (by omega)))
    have S1 := Lib.hid (MadeInt.sn k1 b1); clear k1 b1
    clear hw2
    go_wp2_with fail
    refine (HS.out _ _ (S1.out.sr.mono (by omega))).mono ?_; rintro e w3 ⟨rfl, hw3⟩
    have zw3 : w2.heap.size ≤ w3.heap.size := hw3.size
    replace Ap := Lib.hid (Ap.out.below hw3 (by omega))
    replace Lp := Lib.hid (Lp.out.below hw3 (by omega))
    replace HB := Lib.hid (HB.out.trans (hw3.mono (by omega)))
    replace S1 := Lib.hid (S1.out.below hw3 (by omega))
    clear hw3
    clear S1
    have HN := Lib.hid (show EdgB (w3.alloc (.cells #[.int .i64 0, .int .i64 0, .int .i64 0, .int .i64 0, .int .i64 0, .int .i64 0, .int .i64 0, .int .i64 0, .int .i64 0, .bool false, .bool false] 41)) w3.heap.size 41 (edgV (fun _ => 0) (fun _ => 0) 0 false false) from EdgB.new' rfl)
    obtain ⟨w4, hw⟩ : ∃ z, z = (w3.alloc (.cells #[.int .i64 0, .int .i64 0, .int .i64 0, .int .i64 0, .int .i64 0, .int .i64 0, .int .i64 0, .int .i64 0, .int .i64 0, .bool false, .bool false] 41)).setRow w3.heap.size (edgV ea eb c u v) := ⟨_, rfl⟩
    have hV : EdgB w4 w3.heap.size 41 (edgV ea eb c u v) := by rw [hw]; exact HN.out.setRow _
    have hw4 : Below w3.heap.size w3 w4 := by rw [hw]; exact below_setRow ((Below.refl _ _).alloc (Nat.le_refl _) _) (Nat.le_refl _) _
    have zw4 : w3.heap.size < w4.heap.size := by rw [hw]; simp
    have HW := Lib.hid hw; clear hw
    replace Ap := Lib.hid (Ap.out.below hw4 (by omega))
    replace Lp := Lib.hid (Lp.out.below hw4 (by omega))
    replace HB := Lib.hid (HB.out.trans (hw4.mono (by omega)))
    have Va := Lib.hid hV; clear hV hw4
    go_wp2_with (first | (refine storeE w3.heap.size HN.out rfl rfl rfl rfl ?_; rw [← HW.out]) | refine loadL (w.heap.size + 0) Lp.out rfl rfl rfl ?_)
    clear HW HN
    refine (toPicture_any _ _ _ pl pb _ (Ap.out.mono (by omega)) (by omega) rfl).mono ?_; rintro e w5 ⟨g2, rfl, k2, b2, hw5⟩
    have zw5 : w4.heap.size ≤ w5.heap.size := hw5.size
    replace Ap := Lib.hid (Ap.out.below hw5 (by omega))
    replace Lp := Lib.hid (Lp.out.below hw5 (by omega))
    replace HB := Lib.hid (HB.out.trans (hw5.mono (by omega)))
    replace Va := Lib.hid (Va.out.below hw5 (by omega))
    have S2 := Lib.hid (MadeInt.sn k2 b2); clear k2 b2
    clear hw5
    have HN := Lib.hid (show PicB (w5.alloc (.cells #[.int .i64 0, .int .i64 0, .slice none 0 0] 24)) w5.heap.size 0 0 (.slice none 0 0) from PicB.new' rfl)
    obtain ⟨w6, hw⟩ : ∃ w6, w6 = (w5.alloc (.cells #[.int .i64 0, .int .i64 0, .slice none 0 0] 24)).setRow w5.heap.size #[.int .i64 pw, .int .i64 ph, .slice (some ⟨g2, 0, none⟩) pl pl] := ⟨_, rfl⟩
    have hV : PicB w6 w5.heap.size pw ph (.slice (some ⟨g2, 0, none⟩) pl pl) := by rw [hw]; exact HN.out.setRow _ _ _
    have hw6 : Below w5.heap.size w5 w6 := by rw [hw]; exact below_setRow ((Below.refl _ _).alloc (Nat.le_refl _) _) (Nat.le_refl _) _
    have zw6 : w5.heap.size < w6.heap.size := by rw [hw]; simp
    have HW := Lib.hid hw; clear hw
    replace Ap := Lib.hid (Ap.out.below hw6 (by omega))
    replace Lp := Lib.hid (Lp.out.below hw6 (by omega))
    replace HB := Lib.hid (HB.out.trans (hw6.mono (by omega)))
    replace Va := Lib.hid (Va.out.below hw6 (by omega))
    replace S2 := Lib.hid (S2.out.below hw6 (by omega))
    have Vx := Lib.hid hV; clear hV hw6
    go_wp2_with (first | (refine storeP w5.heap.size HN.out rfl rfl rfl rfl rfl ?_; rw [← HW.out]) | refine loadP (w5.heap.size) Vx.out rfl rfl rfl ?_)
    clear HW HN
    refine (HI.out _ _ (S2.out.sr.mono (by omega))).mono ?_; rintro e w7 ⟨rfl, hw7⟩
    have zw7 : w6.heap.size ≤ w7.heap.size := hw7.size
    replace Ap := Lib.hid (Ap.out.below hw7 (by omega))
    replace Lp := Lib.hid (Lp.out.below hw7 (by omega))
    replace HB := Lib.hid (HB.out.trans (hw7.mono (by omega)))
    replace Va := Lib.hid (Va.out.below hw7 (by omega))
    replace S2 := Lib.hid (S2.out.below hw7 (by omega))
    replace Vx := Lib.hid (Vx.out.below hw7 (by omega))
    clear hw7
    have HN := Lib.hid (show EdgB (w7.alloc (.cells #[.int .i64 0, .int .i64 0, .int .i64 0, .int .i64 0, .int .i64 0, .int .i64 0, .int .i64 0, .int .i64 0, .int .i64 0, .bool false, .bool false] 41)) w7.heap.size 41 (edgV (fun _ => 0) (fun _ => 0) 0 false false) from EdgB.new' rfl)
    obtain ⟨w8, hw⟩ : ∃ z, z = (w7.alloc (.cells #[.int .i64 0, .int .i64 0, .int .i64 0, .int .i64 0, .int .i64 0, .int .i64 0, .int .i64 0, .int .i64 0, .int .i64 0, .bool false, .bool false] 41)).setRow w7.heap.size (edgV ea eb c u v) := ⟨_, rfl⟩
    have hV : EdgB w8 w7.heap.size 41 (edgV ea eb c u v) := by rw [hw]; exact HN.out.setRow _
    have hw8 : Below w7.heap.size w7 w8 := by rw [hw]; exact below_setRow ((Below.refl _ _).alloc (Nat.le_refl _) _) (Nat.le_refl _) _
    have zw8 : w7.heap.size < w8.heap.size := by rw [hw]; simp
    have HW := Lib.hid hw; clear hw
    replace Ap := Lib.hid (Ap.out.below hw8 (by omega))
    replace Lp := Lib.hid (Lp.out.below hw8 (by omega))
    replace HB := Lib.hid (HB.out.trans (hw8.mono (by omega)))
    replace Va := Lib.hid (Va.out.below hw8 (by omega))
    replace S2 := Lib.hid (S2.out.below hw8 (by omega))
    replace Vx := Lib.hid (Vx.out.below hw8 (by omega))
    have Vb := Lib.hid hV; clear hV hw8
    go_wp2_with (first | (refine storeE w7.heap.size HN.out rfl rfl rfl rfl ?_; rw [← HW.out]) | refine loadE (w7.heap.size) Vb.out rfl rfl rfl ?_ | refine loadE (w3.heap.size) Va.out rfl rfl rfl ?_)
    clear HW HN
    refine (eqEdges_yes ea eb c u v _).mono ?_; rintro e w9 ⟨rfl, hw9⟩
    have zw9 : w8.heap.size ≤ w9.heap.size := hw9.size
    replace Ap := Lib.hid (Ap.out.below hw9 (by omega))
    replace Lp := Lib.hid (Lp.out.below hw9 (by omega))
    replace HB := Lib.hid (HB.out.trans (hw9.mono (by omega)))
    replace Va := Lib.hid (Va.out.below hw9 (by omega))
    replace S2 := Lib.hid (S2.out.below hw9 (by omega))
    replace Vx := Lib.hid (Vx.out.below hw9 (by omega))
    replace Vb := Lib.hid (Vb.out.below hw9 (by omega))
    clear hw9
    go_wp2_with fail
    refine wp_region_held_drew (S := fun w' => Below w9.heap.size w9 w') (by kernel_rfl) (Below.refl _ _).drew (fun hw10 => ?_)
    have Lp0 := Lp
    have Vx0 := Vx
    generalize w9.drew = w10 at hw10 ⊢
    have zw10 : w9.heap.size ≤ w10.heap.size := hw10.size
    replace Ap := Lib.hid (Ap.out.below hw10 (by omega))
    replace Lp := Lib.hid (Lp.out.below hw10 (by omega))
    replace HB := Lib.hid (HB.out.trans (hw10.mono (by omega)))
    replace Va := Lib.hid (Va.out.below hw10 (by omega))
    replace S2 := Lib.hid (S2.out.below hw10 (by omega))
    replace Vx := Lib.hid (Vx.out.below hw10 (by omega))
    replace Vb := Lib.hid (Vb.out.below hw10 (by omega))
    refine wpAnyH_take (i := 0) (v := .agg #[.int .i64 pw, .int .i64 ph, .slice (some ⟨g2, 0, none⟩) pl pl]) rfl (by kernel_rfl) (by kernel_rfl) (by kernel_rfl) (fun _ _ _ h => h) (yieldsP w5.heap.size (fun _ h => Vx0.out.below h (by omega)) (by rfl) rfl rfl) hw10 ?_
    refine wpAnyH_take (i := 1) (v := .agg #[.int .i64 pw, .int .i64 ph, .slice pa pl pc]) rfl (by kernel_rfl) (by kernel_rfl) (by kernel_rfl) (fun _ _ _ h => h) (yieldsL (w.heap.size + 0) (fun _ h => Lp0.out.below h (by omega)) (by rfl) rfl rfl) hw10 ?_
    refine wpAnyH_ready (rs := [2]) (by kernel_rfl) (by simp) ?_
    refine AllReadyH.cons rfl (fun K hK => ?_) AllReadyH.nil
    go_simp
    refine (toPicture_any _ _ _ pl pb _ (Ap.out.mono (by omega)) (by omega) rfl).mono ?_; rintro e w11 ⟨g3, rfl, k3, b3, hw11⟩
    have zw11 : w10.heap.size ≤ w11.heap.size := hw11.size
    replace Ap := Lib.hid (Ap.out.below hw11 (by omega))
    replace Lp := Lib.hid (Lp.out.below hw11 (by omega))
    replace HB := Lib.hid (HB.out.trans (hw11.mono (by omega)))
    replace Va := Lib.hid (Va.out.below hw11 (by omega))
    replace S2 := Lib.hid (S2.out.below hw11 (by omega))
    replace Vx := Lib.hid (Vx.out.below hw11 (by omega))
    replace Vb := Lib.hid (Vb.out.below hw11 (by omega))
    refine hK.out _ _ (hw10.trans (hw11.mono (by omega))) (fun Hw11 => ?_)
    clear hK K hw11 hw10
    have S3 := Lib.hid (MadeInt.sn k3 b3); clear k3 b3
    refine wpAnyH_ready (rs := [3]) (by kernel_rfl) (by simp) ?_
    refine AllReadyH.cons rfl (fun K hK => ?_) AllReadyH.nil
    go_simp
    refine (eqPicture_yes _ _ _ _ pl pb pb _ (S2.out.sr.mono (by omega)) (S3.out.sr.mono (by omega)) (fun _ _ => rfl) (by omega)).mono ?_; rintro e w12 ⟨rfl, hw12⟩
    have zw12 : w11.heap.size ≤ w12.heap.size := hw12.size
    replace Ap := Lib.hid (Ap.out.below hw12 (by omega))
    replace Lp := Lib.hid (Lp.out.below hw12 (by omega))
    replace HB := Lib.hid (HB.out.trans (hw12.mono (by omega)))
    replace Va := Lib.hid (Va.out.below hw12 (by omega))
    replace S2 := Lib.hid (S2.out.below hw12 (by omega))
    replace Vx := Lib.hid (Vx.out.below hw12 (by omega))
    replace Vb := Lib.hid (Vb.out.below hw12 (by omega))
    replace S3 := Lib.hid (S3.out.below hw12 (by omega))
    refine hK.out _ _ (Hw11.trans (hw12.mono (by omega))) (fun Hw12 => ?_)
    clear hK K hw12 Hw11
    refine wpAnyH_ready (rs := [4]) (by kernel_rfl) (by simp) ?_
    refine AllReadyH.cons rfl (fun K hK => ?_) AllReadyH.nil
    go_simp
    refine hK.out _ _ Hw12 (fun _ => ?_)
    clear hK K
    refine wpAnyH_done (by kernel_rfl) ?_ _
    clear Lp0
    clear Vx0
    clear Hw12
    clear S3
    go_wp2_with fail
    go_ret
    exact ⟨rfl, HB.out⟩
end Go.Proofs.Ytjogdkeoadkbnaa
