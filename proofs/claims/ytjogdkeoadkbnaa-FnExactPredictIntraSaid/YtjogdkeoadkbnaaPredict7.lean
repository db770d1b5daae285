/- PredictIntra of the program and of the reference, and the walk of the exact law. -/
import Derived.Test.YtjogdkeoadkbnaaPredict6
import Derived.Test.YtjogdkeoadkbnaaEnergy
namespace Go.Proofs.Ytjogdkeoadkbnaa
open Go.RowKit

/-- What PredictIntra answers. -/
def predE (x : Int) (a b : Nat → Int) (c : Int) (u v : Bool) (i : Nat) : Int := if 0 ≤ x ∧ x ≤ 4 ∧ edgB a b c = true then predI a b c u v x.toNat i else 0
theorem predE_no {x : Int} {a b : Nat → Int} {c : Int} {u v : Bool} {i : Nat} (h : ¬ (0 ≤ x ∧ x ≤ 4 ∧ edgB a b c = true)) : predE x a b c u v i = 0 := if_neg h
theorem predE_yes {m : Nat} {a b : Nat → Int} {c : Int} {u v : Bool} {i : Nat} (hm : m < 5) (h : edgB a b c = true) : predE (m : Int) a b c u v i = predI a b c u v m i := by
  unfold predE
  rw [if_pos ⟨by omega, by omega, h⟩, Int.toNat_natCast]
theorem edgB_a {a b : Nat → Int} {c : Int} (h : edgB a b c = true) : ∀ k, k < 4 → 0 ≤ a k ∧ a k ≤ 255 := by
  unfold edgB at h
  simp only [Bool.and_eq_true] at h
  exact smpB_out h.1.1
theorem edgB_b {a b : Nat → Int} {c : Int} (h : edgB a b c = true) : ∀ k, k < 4 → 0 ≤ b k ∧ b k ≤ 255 := by
  unfold edgB at h
  simp only [Bool.and_eq_true] at h
  exact smpB_out h.1.2
theorem edgB_c {a b : Nat → Int} {c : Int} (h : edgB a b c = true) : 0 ≤ c ∧ c ≤ 255 := by
  unfold edgB at h
  simp only [Bool.and_eq_true, decide_eq_true_eq] at h
  exact h.2
set_option maxHeartbeats 1000000 in
theorem sPredictIntra_any (a b : Nat → Int) (c : Int) (u v : Bool) (x : Int) (w : World) :
    Calls Try.prog 35 #[.int .i64 x, .agg (edgV a b c u v)] w fun e w' => e = .returned (.agg (VN 16 (predE x a b c u v))) ∧ Below w.heap.size w w' := by
  obtain ⟨w0, hw0⟩ : ∃ w0, w0 = (w.alloc (.cells (edgV a b c u v) 41)).alloc (.cells #[.int .i64 0, .int .i64 0, .int .i64 0, .int .i64 0, .int .i64 0, .int .i64 0, .int .i64 0, .int .i64 0, .int .i64 0, .int .i64 0, .int .i64 0, .int .i64 0, .int .i64 0, .int .i64 0, .int .i64 0, .int .i64 0] 49) := ⟨_, rfl⟩
  have hE : EdgB w0 w.heap.size 41 (edgV a b c u v) := by rw [hw0]; exact (EdgB.new' rfl).alloc _
  have hR : Blk w0 (w.heap.size + 1) 16 49 (fun _ => 0) := by rw [hw0, ← zero16]; exact Blk.new' (by simp)
  have hbel : Below w.heap.size w w0 := by rw [hw0]; exact ((Below.refl _ _).alloc (Nat.le_refl _) _).alloc (by simp) _
  have HW := Lib.hid hw0; clear hw0
  go_enter Try.func35, Try.ntmps35
  go_upto_region 1 with fail
  rw [← HW.out]; clear HW
  go_wp2_with (refine loadE w.heap.size hE rfl rfl rfl ?_)
  refine (sEdgesValid_any a b c u v _).mono ?_; rintro e w1 ⟨rfl, h1⟩
  replace hE := hE.below h1 hE.lt
  replace hR := hR.below h1 hR.lt
  replace hbel := hbel.trans (h1.mono hbel.size)
  clear h1
  by_cases hv : edgB a b c = true
  · rw [hv]
    go_wp2_with fail
    refine (l1In_any x 0 4 _).mono ?_; rintro e w2 ⟨rfl, rfl⟩
    by_cases hx : 0 ≤ x ∧ x ≤ 4
    · rw [decide_eq_true hx]
      obtain ⟨m, rfl⟩ : ∃ m : Nat, x = (m : Int) := ⟨x.toNat, by omega⟩
      have hm : m < 5 := by omega
      have HP := Lib.hid (show VN 16 (predI a b c u v m) = VN 16 (predE (m : Int) a b c u v) from VN_congr fun k _ => by rw [predE_yes hm hv])
      go_wp2_with (refine loadE w.heap.size hE rfl rfl rfl ?_)
      refine (l6Predict_any a b c u v m _ hm (edgB_a hv) (edgB_b hv) (edgB_c hv)).mono ?_; rintro e w2 ⟨rfl, h2⟩
      replace hE := hE.below h2 hE.lt
      replace hR := hR.below h2 hR.lt
      replace hbel := hbel.trans (h2.mono hbel.size)
      clear h2
      go_wp2_with (refine store16 (w.heap.size + 1) (predI a b c u v m) hR rfl rfl rfl rfl ?_)
      exact ret16 (w.heap.size + 1) Try.results35 (hR.setRow _) rfl rfl ⟨by rw [HP.out], below_setRow hbel (by omega) _⟩
    · rw [decide_eq_false hx]
      have HP := Lib.hid (show VN 16 (fun _ => 0) = VN 16 (predE x a b c u v) from VN_congr fun k _ => by rw [predE_no (fun h => hx ⟨h.1, h.2.1⟩)])
      go_wp2_with (refine store16z (w.heap.size + 1) hR rfl rfl rfl rfl ?_)
      exact ret16 (w.heap.size + 1) Try.results35 (hR.setRow _) rfl rfl ⟨by rw [HP.out], below_setRow hbel (by omega) _⟩
  · have hv' : edgB a b c = false := by simpa using hv
    rw [hv']
    have HP := Lib.hid (show VN 16 (fun _ => 0) = VN 16 (predE x a b c u v) from VN_congr fun k _ => by rw [predE_no (fun h => hv h.2.2)])
    go_wp2_with (refine store16z (w.heap.size + 1) hR rfl rfl rfl rfl ?_)
    exact ret16 (w.heap.size + 1) Try.results35 (hR.setRow _) rfl rfl ⟨by rw [HP.out], below_setRow hbel (by omega) _⟩
set_option maxHeartbeats 1000000 in
theorem iPredictIntra_any (a b : Nat → Int) (c : Int) (u v : Bool) (x : Int) (w : World) :
    Calls Try.prog 36 #[.int .i64 x, .agg (edgV a b c u v)] w fun e w' => e = .returned (.agg (VN 16 (predE x a b c u v))) ∧ Below w.heap.size w w' := by
  obtain ⟨w0, hw0⟩ : ∃ w0, w0 = (w.alloc (.cells (edgV a b c u v) 41)).alloc (.cells #[.int .i64 0, .int .i64 0, .int .i64 0, .int .i64 0, .int .i64 0, .int .i64 0, .int .i64 0, .int .i64 0, .int .i64 0, .int .i64 0, .int .i64 0, .int .i64 0, .int .i64 0, .int .i64 0, .int .i64 0, .int .i64 0] 49) := ⟨_, rfl⟩
  have hE : EdgB w0 w.heap.size 41 (edgV a b c u v) := by rw [hw0]; exact (EdgB.new' rfl).alloc _
  have hR : Blk w0 (w.heap.size + 1) 16 49 (fun _ => 0) := by rw [hw0, ← zero16]; exact Blk.new' (by simp)
  have hbel : Below w.heap.size w w0 := by rw [hw0]; exact ((Below.refl _ _).alloc (Nat.le_refl _) _).alloc (by simp) _
  have HW := Lib.hid hw0; clear hw0
  go_enter Try.func36, Try.ntmps36
  go_upto_region 1 with fail
  rw [← HW.out]; clear HW
  by_cases hx0 : x < 0
  · have HX := Lib.hid hx0
    have HP := Lib.hid (show VN 16 (fun _ => 0) = VN 16 (predE x a b c u v) from VN_congr fun k _ => by rw [predE_no (fun h => by have := HX.out; omega)])
    go_wp2_with (refine store16z (w.heap.size + 1) hR rfl rfl rfl rfl ?_)
    exact ret16 (w.heap.size + 1) Try.results36 (hR.setRow _) rfl rfl ⟨by rw [HP.out], below_setRow hbel (by omega) _⟩
  · by_cases hx4 : 4 < x
    · have HX := Lib.hid hx4
      have HP := Lib.hid (show VN 16 (fun _ => 0) = VN 16 (predE x a b c u v) from VN_congr fun k _ => by rw [predE_no (fun h => by have := HX.out; omega)])
      go_wp2_with (refine store16z (w.heap.size + 1) hR rfl rfl rfl rfl ?_)
      exact ret16 (w.heap.size + 1) Try.results36 (hR.setRow _) rfl rfl ⟨by rw [HP.out], below_setRow hbel (by omega) _⟩
    · go_wp2_with (refine loadE w.heap.size hE rfl rfl rfl ?_)
      refine (iEdgesValid_any a b c u v _).mono ?_; rintro e w1 ⟨rfl, h1⟩
      replace hE := hE.below h1 hE.lt
      replace hR := hR.below h1 hR.lt
      replace hbel := hbel.trans (h1.mono hbel.size)
      clear h1
      by_cases hv : edgB a b c = true
      · rw [hv]
        obtain ⟨m, rfl⟩ : ∃ m : Nat, x = (m : Int) := ⟨x.toNat, by omega⟩
        have hm : m < 5 := by omega
        have HP := Lib.hid (show VN 16 (predI a b c u v m) = VN 16 (predE (m : Int) a b c u v) from VN_congr fun k _ => by rw [predE_yes hm hv])
        go_wp2_with (refine loadE w.heap.size hE rfl rfl rfl ?_)
        refine (predict_any a b c u v m _ hm (edgB_a hv) (edgB_b hv) (edgB_c hv)).mono ?_; rintro e w2 ⟨rfl, h2⟩
        replace hE := hE.below h2 hE.lt
        replace hR := hR.below h2 hR.lt
        replace hbel := hbel.trans (h2.mono hbel.size)
        clear h2
        go_wp2_with (refine store16 (w.heap.size + 1) (predI a b c u v m) hR rfl rfl rfl rfl ?_)
        exact ret16 (w.heap.size + 1) Try.results36 (hR.setRow _) rfl rfl ⟨by rw [HP.out], below_setRow hbel (by omega) _⟩
      · have hv' : edgB a b c = false := by simpa using hv
        rw [hv']
        have HP := Lib.hid (show VN 16 (fun _ => 0) = VN 16 (predE x a b c u v) from VN_congr fun k _ => by rw [predE_no (fun h => hv h.2.2)])
        go_wp2_with (refine store16z (w.heap.size + 1) hR rfl rfl rfl rfl ?_)
        exact ret16 (w.heap.size + 1) Try.results36 (hR.setRow _) rfl rfl ⟨by rw [HP.out], below_setRow hbel (by omega) _⟩
set_option maxHeartbeats 1000000 in
theorem FnExactPredictIntra_walk (x : Int) (_hx : (Lit.int .i64 x).wf = true) (a b : Nat → Int) (c : Int) (u v : Bool) (w : World) :
    Calls Try.prog 11 #[.int .i64 x, .agg (edgV a b c u v)] w fun e w' => e = .returned (.bool true) ∧ Below w.heap.size w w' := by
  obtain ⟨w0, hw0⟩ : ∃ w0, w0 = w.alloc (.cells (edgV a b c u v) 45) := ⟨_, rfl⟩
  have hA : EdgB w0 w.heap.size 45 (edgV a b c u v) := by rw [hw0]; exact EdgB.new' rfl
  have hbel : Below w.heap.size w w0 := by rw [hw0]; exact (Below.refl _ _).alloc (Nat.le_refl _) _
  have HW := Lib.hid hw0; clear hw0
  have hi : (Try.prog.info? 45).map (·.size) = some (edgV a b c u v).size := by kernel_rfl
  clear _hx
  go_enter Try.func11, Try.ntmps11
  go_upto_region 1 with fail
  rw [← HW.out]; clear HW
  go_wp2_with (refine wpList_load_row rfl 45 _ rfl w.heap.size rfl 45 (edgV a b c u v) (0, 0) _ hA Try.underlying45 rfl hi ?_)
  refine (toEdges_any a b c u v _).mono ?_; rintro e w1 ⟨rfl, h1⟩
  replace hA := hA.below h1 hA.lt
  replace hbel := hbel.trans (h1.mono hbel.size)
  clear h1
  go_wp2_with fail
  refine (sPredictIntra_any a b c u v x _).mono ?_; rintro e w2 ⟨rfl, h2⟩
  replace hA := hA.below h2 hA.lt
  replace hbel := hbel.trans (h2.mono hbel.size)
  clear h2
  have hl := hA.lt
  have hN : Blk (w2.alloc (.cells #[.int .i64 0, .int .i64 0, .int .i64 0, .int .i64 0, .int .i64 0, .int .i64 0, .int .i64 0, .int .i64 0, .int .i64 0, .int .i64 0, .int .i64 0, .int .i64 0, .int .i64 0, .int .i64 0, .int .i64 0, .int .i64 0] 49)) w2.heap.size 16 49 (fun _ => 0) := by rw [← zero16]; exact Blk.new _ _ _ _
  have hG := hN.setRow (predE x a b c u v)
  have hA3 : EdgB ((w2.alloc (.cells #[.int .i64 0, .int .i64 0, .int .i64 0, .int .i64 0, .int .i64 0, .int .i64 0, .int .i64 0, .int .i64 0, .int .i64 0, .int .i64 0, .int .i64 0, .int .i64 0, .int .i64 0, .int .i64 0, .int .i64 0, .int .i64 0] 49)).setRow w2.heap.size (VN 16 (predE x a b c u v))) w.heap.size 45 (edgV a b c u v) := (heap_setRow_other _ _ _ _ (by omega)).trans (hA.alloc _)
  have hbel3 := below_setRow (hbel.alloc (Nat.le_of_lt hl) (.cells #[.int .i64 0, .int .i64 0, .int .i64 0, .int .i64 0, .int .i64 0, .int .i64 0, .int .i64 0, .int .i64 0, .int .i64 0, .int .i64 0, .int .i64 0, .int .i64 0, .int .i64 0, .int .i64 0, .int .i64 0, .int .i64 0] 49)) (Nat.le_of_lt hl) (VN 16 (predE x a b c u v))
  go_upto_region 2 with (refine store16 w2.heap.size (predE x a b c u v) hN rfl rfl rfl rfl ?_)
  have hs3 : w2.heap.size < ((w2.alloc (.cells #[.int .i64 0, .int .i64 0, .int .i64 0, .int .i64 0, .int .i64 0, .int .i64 0, .int .i64 0, .int .i64 0, .int .i64 0, .int .i64 0, .int .i64 0, .int .i64 0, .int .i64 0, .int .i64 0, .int .i64 0, .int .i64 0] 49)).setRow w2.heap.size (VN 16 (predE x a b c u v))).heap.size := by simp
  generalize (w2.alloc (.cells #[.int .i64 0, .int .i64 0, .int .i64 0, .int .i64 0, .int .i64 0, .int .i64 0, .int .i64 0, .int .i64 0, .int .i64 0, .int .i64 0, .int .i64 0, .int .i64 0, .int .i64 0, .int .i64 0, .int .i64 0, .int .i64 0] 49)).setRow w2.heap.size (VN 16 (predE x a b c u v)) = w3 at *
  clear hN hA hbel
  go_wp2_with (refine wpList_load_row rfl 45 _ rfl w.heap.size rfl 45 (edgV a b c u v) (0, 0) _ hA3 Try.underlying45 rfl hi ?_)
  refine (toEdges_any a b c u v _).mono ?_; rintro e w4 ⟨rfl, h4⟩
  replace hG := hG.below h4 hG.lt
  replace hbel3 := hbel3.trans (h4.mono hbel3.size)
  clear h4 hA3
  go_wp2_with fail
  refine (iPredictIntra_any a b c u v x _).mono ?_; rintro e w5 ⟨rfl, h5⟩
  replace hG := hG.below h5 hG.lt
  replace hbel3 := hbel3.trans (h5.mono hbel3.size)
  clear h5
  have hl5 := hG.lt
  have hN : Blk (w5.alloc (.cells #[.int .i64 0, .int .i64 0, .int .i64 0, .int .i64 0, .int .i64 0, .int .i64 0, .int .i64 0, .int .i64 0, .int .i64 0, .int .i64 0, .int .i64 0, .int .i64 0, .int .i64 0, .int .i64 0, .int .i64 0, .int .i64 0] 49)) w5.heap.size 16 49 (fun _ => 0) := by rw [← zero16]; exact Blk.new _ _ _ _
  have hM := hN.setRow (predE x a b c u v)
  have hG6 := (hG.alloc (.cells #[.int .i64 0, .int .i64 0, .int .i64 0, .int .i64 0, .int .i64 0, .int .i64 0, .int .i64 0, .int .i64 0, .int .i64 0, .int .i64 0, .int .i64 0, .int .i64 0, .int .i64 0, .int .i64 0, .int .i64 0, .int .i64 0] 49)).setRowOther w5.heap.size (VN 16 (predE x a b c u v)) (by omega)
  have hbel6 := below_setRow (hbel3.alloc (by omega) (.cells #[.int .i64 0, .int .i64 0, .int .i64 0, .int .i64 0, .int .i64 0, .int .i64 0, .int .i64 0, .int .i64 0, .int .i64 0, .int .i64 0, .int .i64 0, .int .i64 0, .int .i64 0, .int .i64 0, .int .i64 0, .int .i64 0] 49)) (show w.heap.size ≤ w5.heap.size by omega) (VN 16 (predE x a b c u v))
  go_upto_region 3 with (refine store16 w5.heap.size (predE x a b c u v) hN rfl rfl rfl rfl ?_)
  generalize (w5.alloc (.cells #[.int .i64 0, .int .i64 0, .int .i64 0, .int .i64 0, .int .i64 0, .int .i64 0, .int .i64 0, .int .i64 0, .int .i64 0, .int .i64 0, .int .i64 0, .int .i64 0, .int .i64 0, .int .i64 0, .int .i64 0, .int .i64 0] 49)).setRow w5.heap.size (VN 16 (predE x a b c u v)) = w6 at *
  clear hN hG hbel3
  go_wp2_with (first | refine load16 w5.heap.size hM rfl rfl rfl ?_ | refine load16 w2.heap.size hG6 rfl rfl rfl ?_)
  refine (eqIntA16_yes _ _ _ (fun _ _ => rfl)).mono ?_; rintro e w7 ⟨rfl, h7⟩
  replace hbel6 := hbel6.trans (h7.mono hbel6.size)
  go_wp2_with fail
  go_ret
  exact ⟨rfl, hbel6⟩
end Go.Proofs.Ytjogdkeoadkbnaa
