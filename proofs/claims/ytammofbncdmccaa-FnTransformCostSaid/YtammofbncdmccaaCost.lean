/- Contracts of TransformCost, of the program and of the reference, and the walk of the exact law. -/
import Derived.Test.YtammofbncdmccaaForward
import Derived.Test.YtammofbncdmccaaSamples
import Derived.BigRegion
import Derived.Deep.MidRow
import Derived.Deep.RegionHeld3
namespace Go.Proofs.Ytammofbncdmccaa
open Go.RowKit

def asumTo (c : Nat → Int) : Nat → Int
  | 0 => 0
  | k + 1 => asumTo c k + absI (c k)
def diffB (a b : Nat → Int) (i : Nat) : Int := a i - b i
def costI (a b : Nat → Int) : Int := if smpB a 16 && smpB b 16 then asumTo (appI (diffB a b)) 16 / 4 else -1
theorem asum_bd {c : Nat → Int} : ∀ k, (∀ j, j < k → -4080 ≤ c j ∧ c j ≤ 4080) → 0 ≤ asumTo c k ∧ asumTo c k ≤ 4080 * k
  | 0, _ => by simp [asumTo]
  | k + 1, h => by
    have a := asum_bd k (fun j hj => h j (by omega))
    have b := h k (by omega)
    simp only [asumTo, absI]
    omega
theorem asum_congr {c d : Nat → Int} : ∀ n, (∀ k, k < n → c k = d k) → asumTo c n = asumTo d n
  | 0, _ => rfl
  | n + 1, h => by simp only [asumTo]; rw [asum_congr n (fun k hk => h k (by omega)), h n (by omega)]
theorem diff_bd {a b : Nat → Int} (ha : smpB a 16 = true) (hb : smpB b 16 = true) : ∀ k, k < 16 → -255 ≤ diffB a b k ∧ diffB a b k ≤ 255 := fun k hk => by
  have := smpB_out ha k hk
  have := smpB_out hb k hk
  unfold diffB
  omega

theorem difference_any (a b : Nat → Int) (w : World) (ha : ∀ k, k < 16 → -1000000 ≤ a k ∧ a k ≤ 1000000) (hb : ∀ k, k < 16 → -1000000 ≤ b k ∧ b k ≤ 1000000) :
    Calls Try.prog 32 #[.agg (VN 16 a), .agg (VN 16 b)] w fun e w' => e = .returned (.agg (VN 16 (diffB a b))) ∧ Below w.heap.size w w' := by
  have HA := Lib.hid ha
  have HB := Lib.hid hb
  have HI := Lib.hid (run_index16 b)
  clear ha hb
  go_enter Try.func32, Try.ntmps32
  go_wp2_with (refine load16 (w.heap.size + 1) ((Blk.new' (by simp)).alloc _) rfl rfl rfl ?_)
  go_loopw [8] (fun i wr => ∃ k : Nat, k ≤ 16 ∧ i = .int .i64 k ∧ Blk wr w.heap.size 16 23 (fun i => if i < k then diffB a b i else a i) ∧ Blk wr (w.heap.size + 2) 16 23 (fun _ => 0) ∧ Below w.heap.size w wr) (fun i _ => 16 - (intOf i).toNat)
  case atStart =>
    refine ⟨0, by omega, rfl, ((Blk.new w 16 _ a).alloc _).alloc _, ?_, (((Below.refl _ _).alloc (Nat.le_refl _) _).alloc (by simp) _).alloc (by simp; omega) _⟩
    rw [← zero16]
    exact Blk.new' (by simp)
  case round =>
    obtain ⟨k, hk, rfl, hA, hZ, hbel⟩ := hrel
    by_cases hlt : k < 16
    · have c1 : wr.cell? ⟨w.heap.size, k, none⟩ = some (.int .i64 (a k)) := by have := hA.cell k hlt; rwa [if_neg (by omega)] at this
      have f1 := hA.frozen k
      have hi := HI.out k hlt
      have h1 := HA.out k hlt
      have h2 := HB.out k hlt
      go_wp2
      go_roundw
      case rel =>
        refine ⟨k + 1, by omega, by go_num, (hA.set k _).congr (fun j hj => ?_), hZ.other (by omega), hbel.setCell (by simp) _⟩
        by_cases e : j = k
        · subst e; rw [if_pos rfl, if_pos (by omega)]; rfl
        · by_cases e2 : j < k
          · rw [if_neg e, if_pos e2, if_pos (by omega)]
          · rw [if_neg e, if_neg e2, if_neg (by omega)]
      case measure => simp [intOf]; omega
    · have hR : Blk wr w.heap.size 16 23 (diffB a b) := hA.congr (fun j hj => by rw [if_pos (by omega)])
      go_wp2_with (first | refine load16 w.heap.size hR rfl rfl rfl ?_ | refine store16 (w.heap.size + 2) (diffB a b) hZ rfl rfl rfl rfl ?_)
      exact ret16 (w.heap.size + 2) Try.results32 (hZ.setRow _) rfl rfl ⟨rfl, below_setRow hbel (by omega) _⟩

theorem iCost_any (a b : Nat → Int) (w : World) :
    Calls Try.prog 20 #[.agg (VN 16 a), .agg (VN 16 b)] w fun e w' => e = .returned (.int .i64 (costI a b)) ∧ Below w.heap.size w w' := by
  have hA : Blk ((w.alloc (.cells (VN 16 a) 23)).alloc (.cells (VN 16 b) 23)) w.heap.size 16 23 a := (Blk.new w 16 _ a).alloc _
  have hB : Blk ((w.alloc (.cells (VN 16 a) 23)).alloc (.cells (VN 16 b) 23)) (w.heap.size + 1) 16 23 b := Blk.new' (by simp)
  have hbel : Below w.heap.size w ((w.alloc (.cells (VN 16 a) 23)).alloc (.cells (VN 16 b) 23)) := ((Below.refl _ _).alloc (Nat.le_refl _) _).alloc (by simp) _
  have hsz : w.heap.size + 1 < ((w.alloc (.cells (VN 16 a) 23)).alloc (.cells (VN 16 b) 23)).heap.size := by simp
  by_cases ha : smpB a 16 = true
  · by_cases hb : smpB b 16 = true
    · have HD := Lib.hid (diff_bd ha hb)
      have HE := Lib.hid (show costI a b = asumTo (hadI (diffB a b)) 16 / 4 by unfold costI; rw [ha, hb, asum_congr 16 (hadI_eq (diffB a b))]; rfl)
      have HI := Lib.hid (run_index16 (hadI (diffB a b)))
      have HH := Lib.hid (fun k hk => (show -4080 ≤ hadI (diffB a b) k ∧ hadI (diffB a b) k ≤ 4080 by rw [hadI_eq _ k hk]; exact appI_bd HD.out k hk))
      have HSA := Lib.hid (smpB_out ha)
      have HSB := Lib.hid (smpB_out hb)
      go_enter Try.func20, Try.ntmps20
      go_wp2_with fail
      refine (samplesIn_any _ 16 a _ (SlI.of_blk hA) (by omega)).mono ?_; rintro e w' ⟨rfl, rfl⟩
      go_wp2_with fail
      refine (samplesIn_any _ 16 b _ (SlI.of_blk hB) (by omega)).mono ?_; rintro e w' ⟨rfl, rfl⟩
      go_wp2_with (first | refine load16 w.heap.size hA rfl rfl rfl ?_ | refine load16 (w.heap.size + 1) hB rfl rfl rfl ?_)
      generalize (w.alloc (.cells (VN 16 a) 23)).alloc (.cells (VN 16 b) 23) = w0 at *
      refine (difference_any a b _ (fun k hk => by have := HSA.out k hk; omega) (fun k hk => by have := HSB.out k hk; omega)).mono ?_; rintro e w1 ⟨rfl, hb1⟩
      go_wp2_with fail
      refine (hadamard_any (diffB a b) _ (ok_mono (by omega) HD.out)).mono ?_; rintro e w2 ⟨rfl, hb2⟩
      have hc2 := (hbel.trans (hb1.mono (by omega))).trans (hb2.mono (by have := hb1.size; omega))
      clear hA hB hbel hb1 hb2 hsz
      go_wp2_with fail
      go_loop [5, 20] (fun s i => ∃ k : Nat, k ≤ 16 ∧ i = .int .i64 k ∧ s = .int .i64 (asumTo (hadI (diffB a b)) k)) (fun _ i => 16 - (intOf i).toNat)
      case atStart => exact ⟨0, by omega, rfl, rfl⟩
      case round =>
        obtain ⟨k, hk, rfl, rfl⟩ := hrel
        have hbd := asum_bd (c := hadI (diffB a b)) k (fun j hj => HH.out j (by omega))
        by_cases hlt : k < 16
        · have hi := HI.out k hlt
          have h1 := HH.out k hlt
          have h2 : 0 ≤ absI (hadI (diffB a b) k) ∧ absI (hadI (diffB a b) k) ≤ 4080 := by unfold absI; omega
          go_wp2_with (go_at_call 33; refine (iabs_any _ _ (by omega) (by omega)).mono ?_; rintro e w' ⟨rfl, rfl⟩)
          go_round
          case rel => exact ⟨k + 1, by omega, by go_num, rfl⟩
          case measure => simp [intOf]; omega
        · obtain rfl : k = 16 := by omega
          go_wp2_with fail
          go_ret
          exact ⟨ret_int HE.out.symm, hc2⟩
    · have hb : smpB b 16 = false := by simpa using hb
      have HE := Lib.hid (show costI a b = -1 by unfold costI; rw [ha, hb]; rfl)
      go_enter Try.func20, Try.ntmps20
      go_wp2_with fail
      refine (samplesIn_any _ 16 a _ (SlI.of_blk hA) (by omega)).mono ?_; rintro e w' ⟨rfl, rfl⟩
      go_wp2_with fail
      refine (samplesIn_any _ 16 b _ (SlI.of_blk hB) (by omega)).mono ?_; rintro e w' ⟨rfl, rfl⟩
      go_wp2_with fail
      go_ret
      exact ⟨ret_int HE.out.symm, hbel⟩
  · have ha : smpB a 16 = false := by simpa using ha
    have HE := Lib.hid (show costI a b = -1 by unfold costI; rw [ha]; rfl)
    go_enter Try.func20, Try.ntmps20
    go_wp2_with fail
    refine (samplesIn_any _ 16 a _ (SlI.of_blk hA) (by omega)).mono ?_; rintro e w' ⟨rfl, rfl⟩
    go_wp2_with fail
    go_ret
    exact ⟨ret_int HE.out.symm, hbel⟩
theorem sCost_any (a b : Nat → Int) (w : World) :
    Calls Try.prog 21 #[.agg (VN 16 a), .agg (VN 16 b)] w fun e w' => e = .returned (.int .i64 (costI a b)) ∧ Below w.heap.size w w' := by
  go_enter Try.func21, Try.ntmps21
  go_wp2
  go_loopw [6] (fun i wr => ∃ k : Nat, k ≤ 16 ∧ i = .int .i64 k ∧ Blk wr w.heap.size 16 23 a ∧ Blk wr (w.heap.size + 1) 16 23 b ∧ Blk wr (w.heap.size + 2) 16 23 (fun i => if i < k then diffB a b i else 0) ∧ Below w.heap.size w wr ∧ Hid (∀ j, j < k → (0 ≤ a j ∧ a j ≤ 255) ∧ 0 ≤ b j ∧ b j ≤ 255)) (fun i _ => 16 - (intOf i).toNat)
  case atStart =>
    refine ⟨0, by omega, rfl, ((Blk.new w 16 _ a).alloc _).alloc _, (Blk.new' (by simp)).alloc _, ?_, (((Below.refl _ _).alloc (Nat.le_refl _) _).alloc (by simp) _).alloc (by simp; omega) _, fun j hj => absurd hj (by omega)⟩
    rw [← zero16]
    exact Blk.new' (by simp)
  case round =>
    obtain ⟨k, hk, rfl, hA, hB, hD, hbel, HJ⟩ := hrel
    by_cases hlt : k < 16
    · have c1 := hA.cell k hlt
      have c2 := hB.cell k hlt
      by_cases h1 : a k < 0 ∨ 255 < a k
      · have HE := Lib.hid (show costI a b = -1 by unfold costI; rw [smpB_false (b := a) k hlt (by omega)]; rfl)
        have H1 := Lib.hid h1; clear h1
        go_wp2_with (go_at_call 34; refine (l1In_no _ _ _ _ (by have := H1.out; omega)).mono ?_; rintro e w' ⟨rfl, rfl⟩)
        go_ret
        exact ⟨ret_int HE.out.symm, hbel⟩
      · have a1 : 0 ≤ a k := by omega
        have a2 : a k ≤ 255 := by omega
        clear h1
        by_cases h1 : b k < 0 ∨ 255 < b k
        · have HE := Lib.hid (show costI a b = -1 by unfold costI; rw [smpB_false (b := b) k hlt (by omega), Bool.and_false]; rfl)
          have H1 := Lib.hid h1; clear h1
          go_wp2_with fail
          refine (l1In_yes _ _ _ _ (by omega) (by omega)).mono ?_; rintro e w' ⟨rfl, rfl⟩
          go_wp2_with fail
          refine (l1In_no _ _ _ _ (by have := H1.out; omega)).mono ?_; rintro e w' ⟨rfl, rfl⟩
          go_wp2_with fail
          go_ret
          exact ⟨ret_int HE.out.symm, hbel⟩
        · have b1 : 0 ≤ b k := by omega
          have b2 : b k ≤ 255 := by omega
          clear h1
          have c3 := hD.cell k hlt
          have f3 := hD.frozen k
          have hk1 : (k : Int) < 16 := by omega
          have hk0 : (0 : Int) ≤ k := by omega
          go_wp2_with fail
          refine (l1In_yes _ _ _ _ (by omega) (by omega)).mono ?_; rintro e w' ⟨rfl, rfl⟩
          go_wp2_with fail
          refine (l1In_yes _ _ _ _ (by omega) (by omega)).mono ?_; rintro e w' ⟨rfl, rfl⟩
          go_wp2_with fail
          go_region
          go_wp2_with fail
          go_roundw
          case rel =>
            refine ⟨k + 1, by omega, by go_num, (hA.other (by omega)).drewN 1, (hB.other (by omega)).drewN 1, ((hD.set k _).congr (fun j hj => ?_)).drewN 1, below_drewN (hbel.setCell (by simp; omega) _) 1, fun j hj => by by_cases e : j = k; (subst e; omega); exact HJ.out j (by omega)⟩
            by_cases e : j = k
            · subst e; rw [if_pos rfl, if_pos (by omega)]; rfl
            · by_cases e2 : j < k
              · rw [if_neg e, if_pos e2, if_pos (by omega)]
              · rw [if_neg e, if_neg e2, if_neg (by omega)]
          case measure => simp [intOf]; omega
    · have hR : Blk wr (w.heap.size + 2) 16 23 (diffB a b) := hD.congr (fun j hj => by rw [if_pos (by omega)])
      have hSA : smpB a 16 = true := smpB_true (fun j hj => (HJ.out j (by omega)).1)
      have hSB : smpB b 16 = true := smpB_true (fun j hj => (HJ.out j (by omega)).2)
      have HD := Lib.hid (diff_bd hSA hSB)
      have HH := Lib.hid (fun k hk => appI_bd HD.out k hk)
      have HE := Lib.hid (show costI a b = asumTo (appI (diffB a b)) 16 / 4 by unfold costI; rw [hSA, hSB]; rfl)
      clear hSA hSB HJ
      go_wp2_with (refine load16 (w.heap.size + 2) hR rfl rfl rfl ?_)
      refine (l3Apply_any _ _ (ok_mono (by omega) HD.out)).mono ?_; rintro e w1 ⟨rfl, hb1⟩
      have hs := hR.lt
      have hc1 := hbel.trans (hb1.mono (by omega))
      have hs1 : w.heap.size < w1.heap.size := by have := hb1.size; omega
      clear hA hB hD hR hbel hb1 hs
      have hN : Blk (w1.alloc (.cells #[.int .i64 0, .int .i64 0, .int .i64 0, .int .i64 0, .int .i64 0, .int .i64 0, .int .i64 0, .int .i64 0, .int .i64 0, .int .i64 0, .int .i64 0, .int .i64 0, .int .i64 0, .int .i64 0, .int .i64 0, .int .i64 0] 23)) w1.heap.size 16 23 (fun _ => 0) := by rw [← zero16]; exact Blk.new _ _ _ _
      have hM := hN.setRow (appI (diffB a b))
      have hc2 := below_setRow (hc1.alloc (Nat.le_of_lt hs1) (.cells #[.int .i64 0, .int .i64 0, .int .i64 0, .int .i64 0, .int .i64 0, .int .i64 0, .int .i64 0, .int .i64 0, .int .i64 0, .int .i64 0, .int .i64 0, .int .i64 0, .int .i64 0, .int .i64 0, .int .i64 0, .int .i64 0] 23)) (Nat.le_of_lt hs1) (VN 16 (appI (diffB a b)))
      go_wp2_with (refine store16 w1.heap.size (appI (diffB a b)) hN rfl rfl rfl rfl ?_)
      generalize (w1.alloc (.cells #[.int .i64 0, .int .i64 0, .int .i64 0, .int .i64 0, .int .i64 0, .int .i64 0, .int .i64 0, .int .i64 0, .int .i64 0, .int .i64 0, .int .i64 0, .int .i64 0, .int .i64 0, .int .i64 0, .int .i64 0, .int .i64 0] 23)).setRow w1.heap.size (VN 16 (appI (diffB a b))) = w2 at *
      go_loopw [8, 9] (fun s i wr => ∃ k : Nat, k ≤ 16 ∧ i = .int .i64 k ∧ s = .int .i64 (asumTo (appI (diffB a b)) k) ∧ Blk wr w1.heap.size 16 23 (appI (diffB a b)) ∧ Below w.heap.size w wr) (fun _ i _ => 16 - (intOf i).toNat)
      case atStart => exact ⟨0, by omega, rfl, rfl, hM, hc2⟩
      case round =>
        clear hN hM hc2 hc1
        obtain ⟨k, hk, rfl, rfl, hA, hbel⟩ := hrel
        have hbd := asum_bd (c := appI (diffB a b)) k (fun j hj => HH.out j (by omega))
        by_cases hlt : k < 16
        · have c1 := hA.cell k hlt
          have h1 := HH.out k hlt
          have hk1 : (k : Int) < 16 := by omega
          have hk0 : (0 : Int) ≤ k := by omega
          have HA := Lib.hid (show asumTo (appI (diffB a b)) (k + 1) = asumTo (appI (diffB a b)) k + if appI (diffB a b) k < -appI (diffB a b) k then -appI (diffB a b) k else appI (diffB a b) k by simp only [asumTo, absI]; omega)
          go_wp2_with fail
          go_region
          go_wp2_with fail
          go_roundw
          case rel => exact ⟨k + 1, by omega, by go_num, by rw [HA.out], hA.drewN 1, below_drewN hbel 1⟩
          case measure => simp [intOf]; omega
        · obtain rfl : k = 16 := by omega
          go_wp2_with fail
          go_ret
          exact ⟨ret_int HE.out.symm, hbel⟩
end Go.Proofs.Ytammofbncdmccaa
