/- The walks of the laws on the scan order. -/
import Derived.Test.YtogmlcmajecpgaaScan
import Derived.Test.YtogmlcmajecpgaaOpenRow
namespace Go.Proofs.Ytogmlcmajecpgaa
open Go.RowKit

set_option maxRecDepth 100000 in
theorem FnExactScanOrder_walk (w : World) : Calls Try.prog 5 #[] w fun e w' => e = .returned (.bool true) ∧ Below w.heap.size w w' := by
  have HB := Lib.hid (Below.refl w.heap.size w)
  go_enter Try.func5, Try.ntmps5
  go_wp2_with fail
  refine (sScanOrder_any _).mono ?_; rintro e w1 ⟨v0, rfl, r0, hw1⟩
  have zw1 : w.heap.size ≤ w1.heap.size := hw1.size
  replace HB := Lib.hid (HB.out.trans (hw1.mono (by omega)))
  clear hw1
  have R0 := Lib.hid r0; clear r0
  go_wp2_with fail
  refine (iScanOrder_any _).mono ?_; rintro e w2 ⟨v1, rfl, r1, hw2⟩
  have zw2 : w1.heap.size ≤ w2.heap.size := hw2.size
  replace HB := Lib.hid (HB.out.trans (hw2.mono (by omega)))
  replace R0 := Lib.hid (R0.out.below hw2 (by omega))
  clear hw2
  have R1 := Lib.hid r1; clear r1
  go_wp2_with fail
  refine (eqIntS_yes _ _ 16 _ _ _ (R1.out.sr.mono (by omega)) (R0.out.sr.mono (by omega)) (fun _ _ => rfl) (by omega)).mono ?_; rintro e w3 ⟨rfl, hw3⟩
  have zw3 : w2.heap.size ≤ w3.heap.size := hw3.size
  replace HB := Lib.hid (HB.out.trans (hw3.mono (by omega)))
  replace R0 := Lib.hid (R0.out.below hw3 (by omega))
  replace R1 := Lib.hid (R1.out.below hw3 (by omega))
  clear hw3
  go_wp2_with fail
  refine (markIntS_any _ 16 _ _ _ 1 _ R1.out (by omega) (by omega) (by omega)).mono ?_; rintro e w4 ⟨rfl, r1, hw4⟩
  clear R1
  have zw4 : w3.heap.size ≤ w4.heap.size := by rw [hw4.size]; exact Nat.le_refl _
  have yw4 : w4.heap.size ≤ w3.heap.size := by rw [hw4.size]; exact Nat.le_refl _
  replace HB := Lib.hid (HB.out.trans (hw4.below (by omega)))
  replace R0 := Lib.hid (R0.out.mod hw4 (by omega))
  clear hw4
  have R1 := Lib.hid r1; clear r1
  go_wp2_with fail
  refine (heldIntS_any _ 16 _ 1 _ R1.out.sr (by omega) (by omega) (by omega)).mono ?_; rintro e w5 ⟨rfl, hw5⟩
  have zw5 : w4.heap.size ≤ w5.heap.size := hw5.size
  replace HB := Lib.hid (HB.out.trans (hw5.mono (by omega)))
  replace R0 := Lib.hid (R0.out.below hw5 (by omega))
  replace R1 := Lib.hid (R1.out.below hw5 (by omega))
  clear hw5
  go_wp2_with fail
  refine (iScanOrder_any _).mono ?_; rintro e w6 ⟨v2, rfl, r2, hw6⟩
  have zw6 : w5.heap.size ≤ w6.heap.size := hw6.size
  replace HB := Lib.hid (HB.out.trans (hw6.mono (by omega)))
  replace R0 := Lib.hid (R0.out.below hw6 (by omega))
  replace R1 := Lib.hid (R1.out.below hw6 (by omega))
  clear hw6
  have R2 := Lib.hid r2; clear r2
  go_wp2_with fail
  refine (eqIntS_yes _ _ 16 _ _ _ (R2.out.sr.mono (by omega)) (R0.out.sr.mono (by omega)) (fun _ _ => rfl) (by omega)).mono ?_; rintro e w7 ⟨rfl, hw7⟩
  have zw7 : w6.heap.size ≤ w7.heap.size := hw7.size
  replace HB := Lib.hid (HB.out.trans (hw7.mono (by omega)))
  replace R0 := Lib.hid (R0.out.below hw7 (by omega))
  replace R1 := Lib.hid (R1.out.below hw7 (by omega))
  replace R2 := Lib.hid (R2.out.below hw7 (by omega))
  clear hw7
  go_wp2_with fail
  refine (heldIntS_any _ 16 _ 1 _ R1.out.sr (by omega) (by omega) (by omega)).mono ?_; rintro e w8 ⟨rfl, hw8⟩
  have zw8 : w7.heap.size ≤ w8.heap.size := hw8.size
  replace HB := Lib.hid (HB.out.trans (hw8.mono (by omega)))
  replace R0 := Lib.hid (R0.out.below hw8 (by omega))
  replace R1 := Lib.hid (R1.out.below hw8 (by omega))
  replace R2 := Lib.hid (R2.out.below hw8 (by omega))
  clear hw8
  go_wp2_with fail
  go_ret
  exact ⟨rfl, HB.out⟩
def VO (n : Nat) (b : Nat → Bool) : Array Value := ((List.range n).map fun i => Value.bool (b i)).toArray
theorem VO_size (n : Nat) (b : Nat → Bool) : (VO n b).size = n := by simp [VO]
theorem VO_get (n : Nat) (b : Nat → Bool) (k : Nat) (h : k < n) : (VO n b)[k]? = some (.bool (b k)) := by simp [VO, h]
theorem VO_set (n : Nat) (b : Nat → Bool) (k : Nat) (v : Bool) : (VO n b).setIfInBounds k (.bool v) = VO n (fun i => if i = k then v else b i) := by
  apply Array.ext
  · simp [VO]
  · intro i h1 h2
    simp only [VO, List.setIfInBounds_toArray, List.getElem_toArray, List.getElem_set, List.getElem_map, List.getElem_range]
    by_cases h : k = i
    · simp [h]
    · simp [h, Ne.symm h]
theorem VO_one (n : Nat) (b : Nat → Bool) : (VO n b).all (·.oneCell') = true := by
  rw [Array.all_eq_true_iff_forall_mem]
  intro x hx
  simp [VO] at hx
  obtain ⟨i, _, rfl⟩ := hx
  rfl
theorem VO_congr {n : Nat} {b c : Nat → Bool} (h : ∀ k, k < n → b k = c k) : VO n b = VO n c := by
  unfold VO
  congr 1
  apply List.map_congr_left
  intro i hi
  rw [h i (by simpa using hi)]
def BlkO (w : World) (g : Nat) (b : Nat → Bool) : Prop := w.heap[g]? = some (.cells (VO 16 b) 26 (0, 0))
theorem BlkO.lt {w : World} {g : Nat} {b : Nat → Bool} (h : BlkO w g b) : g < w.heap.size := (Array.getElem?_eq_some_iff.1 h).1
theorem BlkO.cell {w : World} {g : Nat} {b : Nat → Bool} (h : BlkO w g b) (k : Nat) (hk : k < 16) : w.cell? ⟨g, k, none⟩ = some (.bool (b k)) := by
  rw [cell_of_row w g k _ _ _ h, VO_get 16 b k hk]
theorem BlkO.frozen {w : World} {g : Nat} {b : Nat → Bool} (h : BlkO w g b) (k : Nat) : w.frozen? ⟨g, k, none⟩ = false := frozen_of_row w g k _ _ h
theorem BlkO.set {w : World} {g : Nat} {b : Nat → Bool} (h : BlkO w g b) (k : Nat) (v : Bool) : BlkO (w.setCell ⟨g, k, none⟩ (.bool v)) g (fun i => if i = k then v else b i) := by
  unfold BlkO
  rw [heap_setCell_same w g k _ _ _ h, VO_set]
theorem BlkO.congr {w : World} {g : Nat} {b c : Nat → Bool} (h : BlkO w g b) (hc : ∀ k, k < 16 → b k = c k) : BlkO w g c := by
  unfold BlkO at h ⊢; rw [h, VO_congr hc]
theorem infoO (b : Nat → Bool) : (Try.prog.info? 26).map (·.size) = some (VO 16 b).size := by rw [VO_size]; kernel_rfl
theorem zeroO : VO 16 (fun _ => false) = #[.bool false, .bool false, .bool false, .bool false, .bool false, .bool false, .bool false, .bool false, .bool false, .bool false, .bool false, .bool false, .bool false, .bool false, .bool false, .bool false] := by kernel_rfl
def snB (k i : Nat) : Bool := (List.range k).any fun j => scN j == i
theorem sn_new : ∀ k, k < 16 → snB k (scN k) = false := by decide +kernel
theorem sn_step : ∀ k, k < 16 → ∀ i, i < 16 → (if i = scN k then true else snB k i) = snB (k + 1) i := by decide +kernel
theorem sc_bd : ∀ k, k < 16 → scN k < 16 := by decide +kernel
theorem sc_near : ∀ k, k < 15 → absI ((scN (k + 1) : Int) / 4 + (scN (k + 1) : Int) % 4 - (scN k : Int) / 4 - (scN k : Int) % 4) ≤ 1 := by decide +kernel
set_option maxRecDepth 100000 in
set_option maxHeartbeats 2000000 in
theorem FnScanOrder_walk (a : Option Addr) (len cap : Nat) (zs : List Int) (w : World) (_h : IsRow .u8 w a len cap zs) :
    Calls Try.prog 3 #[.slice a len cap] w fun e w' => e = .returned (.bool true) ∧ Below w.heap.size w w' := by
  clear _h
  by_cases hl : 1048576 < len
  · go_enter Try.func3, Try.ntmps3
    go_wp2_with fail
    go_ret
    exact ⟨rfl, Below.refl _ _⟩
  · go_enter Try.func3, Try.ntmps3
    go_wp2_with fail
    refine (iScanOrder_any _).mono ?_; rintro e w1 ⟨v1, rfl, r1, hw1⟩
    have R1 := Lib.hid r1; have B1 := Lib.hid hw1
    have z1 := hw1.size
    obtain ⟨a1, cap1, rfl, hcap1, hc1⟩ := r1
    obtain ⟨g1, off1, rfl, lo1, hi1, hc1⟩ := hc1 (by omega)
    have HC := Lib.hid hc1
    clear hc1 hw1
    go_wp2_with fail
    refine (sScanOrder_any _).mono ?_; rintro e w2 ⟨v2, rfl, r2, hw2⟩
    have R2 := Lib.hid r2; have B2 := Lib.hid (B1.out.trans (hw2.mono z1))
    have z2 := hw2.size
    replace R1 := Lib.hid (R1.out.below hw2 (by omega))
    have K2 := Lib.hid hw2
    clear r2 hw2 B1
    go_wp2_with fail
    refine (sameInts_yes _ _ 16 _ _ _ (R1.out.sr.mono (by omega)) (R2.out.sr.mono (by omega)) (fun _ _ => rfl) (by omega)).mono ?_; rintro e w3 ⟨rfl, hw3⟩
    have z3 := hw3.size
    have B3 := Lib.hid (B2.out.trans (hw3.mono (by omega)))
    have K3 := Lib.hid (K2.out.trans (hw3.mono z2))
    have hO : Hid (∀ i, i < 16 → w3.cell? ⟨g1, off1 + i, none⟩ = some (.int .i64 (scF i))) := fun i hi => (K3.out.cell (p := ⟨g1, off1 + i, none⟩) hi1).trans (HC.out i hi).1
    clear R1 R2 K2 hw3 B2 HC
    have c0 : w3.cell? ⟨g1, off1, none⟩ = some (.int .i64 0) := hO.out 0 (by omega)
    have c15 : w3.cell? ⟨g1, off1 + 15, none⟩ = some (.int .i64 15) := hO.out 15 (by omega)
    have hA : BlkO (w3.alloc (.cells #[.bool false, .bool false, .bool false, .bool false, .bool false, .bool false, .bool false, .bool false, .bool false, .bool false, .bool false, .bool false, .bool false, .bool false, .bool false, .bool false] 26)) w3.heap.size (fun _ => false) := by unfold BlkO; rw [zeroO]; exact heap_alloc_new w3 _
    have HA := Lib.hid hA
    obtain ⟨w4, hw4⟩ : ∃ w4, w4 = w3.alloc (.cells #[.bool false, .bool false, .bool false, .bool false, .bool false, .bool false, .bool false, .bool false, .bool false, .bool false, .bool false, .bool false, .bool false, .bool false, .bool false, .bool false] 26) := ⟨_, rfl⟩
    have hS : BlkO w4 w3.heap.size (fun _ => false) := by rw [hw4]; exact hA
    have hb4 : Below w3.heap.size w3 w4 := by rw [hw4]; exact (Below.refl _ _).alloc (Nat.le_refl _) _
    have z4 := hb4.size
    have HW := Lib.hid hw4
    have hO4 : Hid (∀ i, i < 16 → w4.cell? ⟨g1, off1 + i, none⟩ = some (.int .i64 (scF i))) := fun i hi => (hb4.cell (p := ⟨g1, off1 + i, none⟩) (Nat.lt_of_lt_of_le hi1 (by omega))).trans (hO.out i hi)
    have B4 := Lib.hid (B3.out.trans (hb4.mono (by omega)))
    clear hw4 hA hO hb4 B3
    have hne : g1 ≠ w3.heap.size := by omega
    go_wp2_with fail
    rw [← HW.out]
    clear HW HA c0 c15
    go_loopw [5] (fun i wr => ∃ k : Nat, k ≤ 16 ∧ i = .int .i64 k ∧ Hid (∀ i, i < 16 → wr.cell? ⟨g1, off1 + i, none⟩ = some (.int .i64 (scF i))) ∧ BlkO wr w3.heap.size (snB k) ∧ Below w.heap.size w wr) (fun i _ => 16 - (intOf i).toNat)
    case atStart => exact ⟨0, by omega, rfl, hO4, hS.congr (fun i _ => rfl), B4.out⟩
    case round =>
      clear hO4 hS B4
      obtain ⟨k, hk, rfl, hO, hS, hbel⟩ := hrel
      by_cases hlt : k < 16
      · have hk1 : (k : Int) < 16 := by omega
        have hk0 : (0 : Int) ≤ k := by omega
        have hb := sc_bd k hlt
        have c1 := hO.out k hlt
        have c2 := hS.cell (scN k) hb
        rw [sn_new k hlt] at c2
        have f2 := hS.frozen (scN k)
        have HST := Lib.hid (sn_step k hlt)
        obtain ⟨ws, hws⟩ : ∃ ws, ws = wr.setCell ⟨w3.heap.size, scN k, none⟩ (.bool true) := ⟨_, rfl⟩
        have hOs : Hid (∀ i, i < 16 → ws.cell? ⟨g1, off1 + i, none⟩ = some (.int .i64 (scF i))) := fun i hi => by
          rw [hws]
          exact (World.cell?_of_block (w := wr) (heap_setCell_other wr ⟨w3.heap.size, scN k, none⟩ g1 _ hne)).trans (hO.out i hi)
        have hSs : BlkO ws w3.heap.size (snB (k + 1)) := by rw [hws]; exact (hS.set (scN k) true).congr (fun i hi => HST.out i hi)
        have hbs : Below w.heap.size w ws := by rw [hws]; exact hbel.setCell (by show w.heap.size ≤ w3.heap.size; omega) _
        have HWs := Lib.hid hws
        have c3 := hOs.out k hlt
        clear hws hO hS hbel HST
        by_cases h0 : k = 0
        · subst h0
          have : scF 0 = 0 := rfl
          have hs0 : scN 0 = 0 := rfl
          have c1 : wr.cell? ⟨g1, off1, none⟩ = some (.int .i64 0) := c1
          have c3 : ws.cell? ⟨g1, off1, none⟩ = some (.int .i64 0) := c3
          rw [hs0] at c2 f2 HWs
          clear hs0 this hb
          rw [show ((0 : Nat) : Int) = 0 from rfl]
          go_wp2_with fail
          rw [← HWs.out]
          clear HWs c1 c2 f2
          have hd : decide ((0 : Int) < 0) = false := rfl
          go_quiet (fail)
          go_wp2_with fail
          go_roundw
          case rel => exact ⟨1, by omega, by go_num, hOs, hSs, below_drewN hbs _⟩
          case measure => simp [intOf]
        · obtain ⟨j, rfl⟩ : ∃ j, k = j + 1 := ⟨k - 1, by omega⟩
          have c4 := hOs.out j (by omega)
          have hb2 := sc_bd j (by omega)
          have hnear := sc_near j (by omega)
          have e1 : scF (j + 1) = (scN (j + 1) : Int) := rfl
          have e2 : scF j = (scN j : Int) := rfl
          rw [e1] at c1 c3
          rw [e2] at c4
          clear e1 e2
          generalize scN (j + 1) = p at *
          generalize scN j = q at *
          go_wp2_with fail
          rw [← HWs.out]
          clear HWs c1 c2 f2
          have hd : decide ((0 : Int) < ((j + 1 : Nat) : Int)) = true := decide_eq_true (by omega)
          go_quiet ((go_at_call 13; exact quietL (labs_any _ _ (by omega) (by omega))))
          go_wp2_with fail
          go_roundw
          case rel => exact ⟨j + 2, by omega, by go_num, hOs, hSs, below_drewN hbs _⟩
          case measure => simp [intOf]; omega
      · go_wp2_with fail
        go_ret
        exact ⟨rfl, hbel⟩
end Go.Proofs.Ytogmlcmajecpgaa
