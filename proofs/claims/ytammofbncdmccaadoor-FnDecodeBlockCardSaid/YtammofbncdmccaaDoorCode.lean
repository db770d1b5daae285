/- Contracts of CodeBlock and DecodeBlock, of the program and of the reference, and the walks of their exact laws. -/
import Derived.Test.YtammofbncdmccaaDoorForward
import Derived.Test.YtammofbncdmccaaDoorQuant
import Derived.Deep.RegionHeld3
namespace Go.Proofs.YtammofbncdmccaaDoor
open Go.RowKit

def qB (q : Int) : Bool := decide (0 ≤ q ∧ q ≤ 15)
def codeI (b : Nat → Int) (q : Int) (i : Nat) : Int := if okB b 255 && qB q then quaI (appI b i) (stepOf q) else 0
def deqB (l : Nat → Int) (q : Int) (k : Nat) : Int := clampI (l k * stepOf q) (-4080) 4080
def decI (l : Nat → Int) (q : Int) (i : Nat) : Int := if okB l 4080 && qB q then rnd16 (appI (deqB l q) i) else 0
theorem deqB_bd (l : Nat → Int) (q : Int) : ∀ k, k < 16 → -4080 ≤ deqB l q k ∧ deqB l q k ≤ 4080 := fun k _ => by unfold deqB clampI; omega

theorem sCode_any (b : Nat → Int) (q : Int) (w : World) :
    Calls Tryd.prog 8 #[.agg (VN 16 b), .int .i64 q] w fun e w' => e = .returned (.agg (VN 16 (codeI b q))) ∧ Below w.heap.size w w' := by
  have hA : Blk (((w.alloc (.cells (VN 16 b) 23)).alloc (.cells #[.int .i64 0, .int .i64 0, .int .i64 0, .int .i64 0, .int .i64 0, .int .i64 0, .int .i64 0, .int .i64 0, .int .i64 0, .int .i64 0, .int .i64 0, .int .i64 0, .int .i64 0, .int .i64 0, .int .i64 0, .int .i64 0] 23)).alloc (.cells #[.int .i64 0, .int .i64 0, .int .i64 0, .int .i64 0, .int .i64 0, .int .i64 0, .int .i64 0, .int .i64 0, .int .i64 0, .int .i64 0, .int .i64 0, .int .i64 0, .int .i64 0, .int .i64 0, .int .i64 0, .int .i64 0] 23)) w.heap.size 16 23 b := ((Blk.new w 16 _ b).alloc _).alloc _
  have hZ : Blk (((w.alloc (.cells (VN 16 b) 23)).alloc (.cells #[.int .i64 0, .int .i64 0, .int .i64 0, .int .i64 0, .int .i64 0, .int .i64 0, .int .i64 0, .int .i64 0, .int .i64 0, .int .i64 0, .int .i64 0, .int .i64 0, .int .i64 0, .int .i64 0, .int .i64 0, .int .i64 0] 23)).alloc (.cells #[.int .i64 0, .int .i64 0, .int .i64 0, .int .i64 0, .int .i64 0, .int .i64 0, .int .i64 0, .int .i64 0, .int .i64 0, .int .i64 0, .int .i64 0, .int .i64 0, .int .i64 0, .int .i64 0, .int .i64 0, .int .i64 0] 23)) (w.heap.size + 1) 16 23 (fun _ => 0) := by rw [← zero16]; exact (Blk.new' (by simp)).alloc _
  have hO : Blk (((w.alloc (.cells (VN 16 b) 23)).alloc (.cells #[.int .i64 0, .int .i64 0, .int .i64 0, .int .i64 0, .int .i64 0, .int .i64 0, .int .i64 0, .int .i64 0, .int .i64 0, .int .i64 0, .int .i64 0, .int .i64 0, .int .i64 0, .int .i64 0, .int .i64 0, .int .i64 0] 23)).alloc (.cells #[.int .i64 0, .int .i64 0, .int .i64 0, .int .i64 0, .int .i64 0, .int .i64 0, .int .i64 0, .int .i64 0, .int .i64 0, .int .i64 0, .int .i64 0, .int .i64 0, .int .i64 0, .int .i64 0, .int .i64 0, .int .i64 0] 23)) (w.heap.size + 2) 16 23 (fun _ => 0) := by rw [← zero16]; exact Blk.new' (by simp)
  have hbel : Below w.heap.size w (((w.alloc (.cells (VN 16 b) 23)).alloc (.cells #[.int .i64 0, .int .i64 0, .int .i64 0, .int .i64 0, .int .i64 0, .int .i64 0, .int .i64 0, .int .i64 0, .int .i64 0, .int .i64 0, .int .i64 0, .int .i64 0, .int .i64 0, .int .i64 0, .int .i64 0, .int .i64 0] 23)).alloc (.cells #[.int .i64 0, .int .i64 0, .int .i64 0, .int .i64 0, .int .i64 0, .int .i64 0, .int .i64 0, .int .i64 0, .int .i64 0, .int .i64 0, .int .i64 0, .int .i64 0, .int .i64 0, .int .i64 0, .int .i64 0, .int .i64 0] 23)) := (((Below.refl _ _).alloc (Nat.le_refl _) _).alloc (by simp) _).alloc (by simp; omega) _
  go_enter Tryd.func8, Tryd.ntmps8
  go_wp2_with (refine load16 w.heap.size hA rfl rfl rfl ?_)
  generalize ((w.alloc (.cells (VN 16 b) 23)).alloc (.cells #[.int .i64 0, .int .i64 0, .int .i64 0, .int .i64 0, .int .i64 0, .int .i64 0, .int .i64 0, .int .i64 0, .int .i64 0, .int .i64 0, .int .i64 0, .int .i64 0, .int .i64 0, .int .i64 0, .int .i64 0, .int .i64 0] 23)).alloc (.cells #[.int .i64 0, .int .i64 0, .int .i64 0, .int .i64 0, .int .i64 0, .int .i64 0, .int .i64 0, .int .i64 0, .int .i64 0, .int .i64 0, .int .i64 0, .int .i64 0, .int .i64 0, .int .i64 0, .int .i64 0, .int .i64 0] 23) = w0 at *
  refine (l3Ok_any _ _ _ (by omega) (by omega)).mono ?_; rintro e w1 ⟨rfl, hb1⟩
  have hA1 := hA.below hb1 hA.lt
  have hZ1 := hZ.below hb1 hZ.lt
  have hO1 := hO.below hb1 hO.lt
  have hc1 := hbel.trans (hb1.mono (Nat.le_of_lt hA.lt))
  clear hA hZ hO hbel hb1
  by_cases hok : okB b 255 = true
  · by_cases hq : q < 0 ∨ 15 < q
    · have HE := Lib.hid (show VN 16 (fun _ => 0) = VN 16 (codeI b q) from VN_congr fun k hk => by unfold codeI qB; rw [decide_eq_false (by omega), Bool.and_false]; rfl)
      have HQ := Lib.hid hq; clear hq
      go_wp2_with fail
      refine (l1In_no _ _ _ _ (by have := HQ.out; omega)).mono ?_; rintro e w' ⟨rfl, rfl⟩
      go_wp2_with (first | refine load16 (w.heap.size + 2) hO1 rfl rfl rfl ?_ | refine store16 (w.heap.size + 1) (fun _ => 0) hZ1 rfl rfl rfl rfl ?_)
      exact ret16 (w.heap.size + 1) Tryd.results8 (hZ1.setRow _) rfl rfl ⟨by rw [HE.out], below_setRow hc1 (by omega) _⟩
    · have hq0 : 0 ≤ q := by omega
      have hq1 : q ≤ 15 := by omega
      clear hq
      have HO := Lib.hid (okB_out hok)
      have HE := Lib.hid (show ∀ k, quaI (appI b k) (stepOf q) = codeI b q k from fun k => by unfold codeI qB; rw [hok, decide_eq_true ⟨hq0, hq1⟩]; rfl)
      have HB := Lib.hid (fun k hk => appI_bd HO.out k hk)
      go_wp2_with fail
      refine (l1In_yes _ _ _ _ (by omega) (by omega)).mono ?_; rintro e w' ⟨rfl, rfl⟩
      go_wp2_with (refine load16 w.heap.size hA1 rfl rfl rfl ?_)
      refine (l3Apply_any b _ (ok_mono (by omega) HO.out)).mono ?_; rintro e w2 ⟨rfl, hb2⟩
      have hZ2 := hZ1.below hb2 hZ1.lt
      have hO2 := hO1.below hb2 hO1.lt
      have hc2 := hc1.trans (hb2.mono (Nat.le_of_lt hA1.lt))
      have hs2 := hO2.lt
      clear hA1 hZ1 hO1 hc1 hb2
      have hN : Blk (w2.alloc (.cells #[.int .i64 0, .int .i64 0, .int .i64 0, .int .i64 0, .int .i64 0, .int .i64 0, .int .i64 0, .int .i64 0, .int .i64 0, .int .i64 0, .int .i64 0, .int .i64 0, .int .i64 0, .int .i64 0, .int .i64 0, .int .i64 0] 23)) w2.heap.size 16 23 (fun _ => 0) := by rw [← zero16]; exact Blk.new _ _ _ _
      have hM := hN.setRow (appI b)
      have hZ3 := (hZ2.alloc (.cells #[.int .i64 0, .int .i64 0, .int .i64 0, .int .i64 0, .int .i64 0, .int .i64 0, .int .i64 0, .int .i64 0, .int .i64 0, .int .i64 0, .int .i64 0, .int .i64 0, .int .i64 0, .int .i64 0, .int .i64 0, .int .i64 0] 23)).setRowOther w2.heap.size (VN 16 (appI b)) (by omega)
      have hO3 := (hO2.alloc (.cells #[.int .i64 0, .int .i64 0, .int .i64 0, .int .i64 0, .int .i64 0, .int .i64 0, .int .i64 0, .int .i64 0, .int .i64 0, .int .i64 0, .int .i64 0, .int .i64 0, .int .i64 0, .int .i64 0, .int .i64 0, .int .i64 0] 23)).setRowOther w2.heap.size (VN 16 (appI b)) (by omega)
      have hc3 := below_setRow (hc2.alloc (by omega) (.cells #[.int .i64 0, .int .i64 0, .int .i64 0, .int .i64 0, .int .i64 0, .int .i64 0, .int .i64 0, .int .i64 0, .int .i64 0, .int .i64 0, .int .i64 0, .int .i64 0, .int .i64 0, .int .i64 0, .int .i64 0, .int .i64 0] 23)) (show w.heap.size ≤ w2.heap.size by omega) (VN 16 (appI b))
      go_wp2_with (refine store16 w2.heap.size (appI b) hN rfl rfl rfl rfl ?_)
      generalize (w2.alloc (.cells #[.int .i64 0, .int .i64 0, .int .i64 0, .int .i64 0, .int .i64 0, .int .i64 0, .int .i64 0, .int .i64 0, .int .i64 0, .int .i64 0, .int .i64 0, .int .i64 0, .int .i64 0, .int .i64 0, .int .i64 0, .int .i64 0] 23)).setRow w2.heap.size (VN 16 (appI b)) = w3 at *
      go_loopw [7] (fun i wr => ∃ k : Nat, k ≤ 16 ∧ i = .int .i64 k ∧ Blk wr w2.heap.size 16 23 (appI b) ∧ Blk wr (w.heap.size + 1) 16 23 (fun _ => 0) ∧ Blk wr (w.heap.size + 2) 16 23 (fun i => if i < k then codeI b q i else 0) ∧ Below w.heap.size w wr) (fun i _ => 16 - (intOf i).toNat)
      case atStart => exact ⟨0, by omega, rfl, hM, hZ3, hO3, hc3⟩
      case round =>
        clear hN hM hZ3 hO3 hc3 hZ2 hO2 hc2
        obtain ⟨k, hk, rfl, hM, hZ, hO, hbel⟩ := hrel
        by_cases hlt : k < 16
        · have c1 := hM.cell k hlt
          have hbd := HB.out k hlt
          go_wp2_with fail
          refine (l4Quant_any _ _ _ (by omega) (by omega) (by omega) (by omega)).mono ?_; rintro e w4 ⟨rfl, hb4⟩
          have hM4 := hM.below hb4 hM.lt
          have hZ4 := hZ.below hb4 hZ.lt
          have hO4 := hO.below hb4 hO.lt
          have hc4 := hbel.trans (hb4.mono (by have := hM.lt; omega))
          have c4 := hO4.cell k hlt
          have f4 := hO4.frozen k
          clear hM hZ hO hbel hb4 c1
          go_wp2_with fail
          go_roundw
          case rel =>
            refine ⟨k + 1, by omega, by go_num, hM4.other (by omega), hZ4.other (by omega), (hO4.set k _).congr (fun j hj => ?_), hc4.setCell (by simp; omega) _⟩
            by_cases e : j = k
            · subst e; rw [if_pos rfl, if_pos (by omega), HE.out]
            · by_cases e2 : j < k
              · rw [if_neg e, if_pos e2, if_pos (by omega)]
              · rw [if_neg e, if_neg e2, if_neg (by omega)]
          case measure => simp [intOf]; omega
        · have hR : Blk wr (w.heap.size + 2) 16 23 (codeI b q) := hO.congr (fun j hj => by rw [if_pos (by omega)])
          go_wp2_with (first | refine load16 (w.heap.size + 2) hR rfl rfl rfl ?_ | refine store16 (w.heap.size + 1) (codeI b q) hZ rfl rfl rfl rfl ?_)
          exact ret16 (w.heap.size + 1) Tryd.results8 (hZ.setRow _) rfl rfl ⟨rfl, below_setRow hbel (by omega) _⟩
  · have hok : okB b 255 = false := by simpa using hok
    have HE := Lib.hid (show VN 16 (fun _ => 0) = VN 16 (codeI b q) from VN_congr fun k hk => by unfold codeI; rw [hok]; rfl)
    go_wp2_with (first | refine load16 (w.heap.size + 2) hO1 rfl rfl rfl ?_ | refine store16 (w.heap.size + 1) (fun _ => 0) hZ1 rfl rfl rfl rfl ?_)
    exact ret16 (w.heap.size + 1) Tryd.results8 (hZ1.setRow _) rfl rfl ⟨by rw [HE.out], below_setRow hc1 (by omega) _⟩

theorem iCode_any (b : Nat → Int) (q : Int) (w : World) (ht : HasTab w) :
    Calls Tryd.prog 7 #[.agg (VN 16 b), .int .i64 q] w fun e w' => e = .returned (.agg (VN 16 (codeI b q))) ∧ Below w.heap.size w w' := by
  have HT := Lib.hid ht; clear ht
  have hA : Blk ((w.alloc (.cells (VN 16 b) 23)).alloc (.cells #[.int .i64 0, .int .i64 0, .int .i64 0, .int .i64 0, .int .i64 0, .int .i64 0, .int .i64 0, .int .i64 0, .int .i64 0, .int .i64 0, .int .i64 0, .int .i64 0, .int .i64 0, .int .i64 0, .int .i64 0, .int .i64 0] 23)) w.heap.size 16 23 b := (Blk.new w 16 _ b).alloc _
  have hZ : Blk ((w.alloc (.cells (VN 16 b) 23)).alloc (.cells #[.int .i64 0, .int .i64 0, .int .i64 0, .int .i64 0, .int .i64 0, .int .i64 0, .int .i64 0, .int .i64 0, .int .i64 0, .int .i64 0, .int .i64 0, .int .i64 0, .int .i64 0, .int .i64 0, .int .i64 0, .int .i64 0] 23)) (w.heap.size + 1) 16 23 (fun _ => 0) := by rw [← zero16]; exact Blk.new' (by simp)
  have hbel : Below w.heap.size w ((w.alloc (.cells (VN 16 b) 23)).alloc (.cells #[.int .i64 0, .int .i64 0, .int .i64 0, .int .i64 0, .int .i64 0, .int .i64 0, .int .i64 0, .int .i64 0, .int .i64 0, .int .i64 0, .int .i64 0, .int .i64 0, .int .i64 0, .int .i64 0, .int .i64 0, .int .i64 0] 23)) := ((Below.refl _ _).alloc (Nat.le_refl _) _).alloc (by simp) _
  by_cases hq : q < 0 ∨ 15 < q
  · have HE := Lib.hid (show VN 16 (fun _ => 0) = VN 16 (codeI b q) from VN_congr fun k hk => by unfold codeI qB; rw [decide_eq_false (by omega), Bool.and_false]; rfl)
    have HQ := Lib.hid hq; clear hq
    go_enter Tryd.func7, Tryd.ntmps7
    go_wp2_with fail
    refine (qualityValid_no _ _ HQ.out).mono ?_; rintro e w' ⟨rfl, rfl⟩
    go_wp2_with (refine store16z (w.heap.size + 1) hZ rfl rfl rfl rfl ?_)
    exact ret16 (w.heap.size + 1) Tryd.results7 (hZ.setRow _) rfl rfl ⟨by rw [HE.out], below_setRow hbel (by omega) _⟩
  · have hq0 : 0 ≤ q := by omega
    have hq1 : q ≤ 15 := by omega
    clear hq
    go_enter Tryd.func7, Tryd.ntmps7
    go_wp2_with fail
    refine (qualityValid_yes _ _ hq0 hq1).mono ?_; rintro e w' ⟨rfl, rfl⟩
    go_wp2_with (refine load16 w.heap.size hA rfl rfl rfl ?_)
    generalize (w.alloc (.cells (VN 16 b) 23)).alloc (.cells #[.int .i64 0, .int .i64 0, .int .i64 0, .int .i64 0, .int .i64 0, .int .i64 0, .int .i64 0, .int .i64 0, .int .i64 0, .int .i64 0, .int .i64 0, .int .i64 0, .int .i64 0, .int .i64 0, .int .i64 0, .int .i64 0] 23) = w0 at *
    refine (blockWithin_any _ _ _ (by omega) (by omega)).mono ?_; rintro e w1 ⟨rfl, hb1⟩
    have hA1 := hA.below hb1 hA.lt
    have hZ1 := hZ.below hb1 hZ.lt
    have hc1 := hbel.trans (hb1.mono (Nat.le_of_lt hA.lt))
    clear hA hZ hbel hb1
    by_cases hok : okB b 255 = true
    · have HO := Lib.hid (okB_out hok)
      have HB := Lib.hid (fun k hk => (show -4080 ≤ hadI b k ∧ hadI b k ≤ 4080 by rw [hadI_eq b k hk]; exact appI_bd HO.out k hk))
      have HE := Lib.hid (show ∀ k, k < 16 → quantI (hadI b k) q = codeI b q k from fun k hk => by
        have := HB.out k hk
        unfold codeI qB quantI
        rw [hok, decide_eq_true ⟨hq0, hq1⟩, if_neg (by omega), hadI_eq b k hk]; rfl)
      have HI := Lib.hid (run_index16 (hadI b))
      go_wp2_with (refine load16 w.heap.size hA1 rfl rfl rfl ?_)
      refine (hadamard_any b _ (ok_mono (by omega) HO.out)).mono ?_; rintro e w2 ⟨rfl, hb2⟩
      have hZ2 := hZ1.below hb2 hZ1.lt
      have hc2 := hc1.trans (hb2.mono (Nat.le_of_lt hA1.lt))
      have hs2 := hZ2.lt
      clear hA1 hZ1 hc1 hb2
      have hN : Blk (w2.alloc (.cells #[.int .i64 0, .int .i64 0, .int .i64 0, .int .i64 0, .int .i64 0, .int .i64 0, .int .i64 0, .int .i64 0, .int .i64 0, .int .i64 0, .int .i64 0, .int .i64 0, .int .i64 0, .int .i64 0, .int .i64 0, .int .i64 0] 23)) w2.heap.size 16 23 (fun _ => 0) := by rw [← zero16]; exact Blk.new _ _ _ _
      have hM := hN.setRow (hadI b)
      have hZ3 := (hZ2.alloc (.cells #[.int .i64 0, .int .i64 0, .int .i64 0, .int .i64 0, .int .i64 0, .int .i64 0, .int .i64 0, .int .i64 0, .int .i64 0, .int .i64 0, .int .i64 0, .int .i64 0, .int .i64 0, .int .i64 0, .int .i64 0, .int .i64 0] 23)).setRowOther w2.heap.size (VN 16 (hadI b)) (by omega)
      have hc3 := below_setRow (hc2.alloc (by omega) (.cells #[.int .i64 0, .int .i64 0, .int .i64 0, .int .i64 0, .int .i64 0, .int .i64 0, .int .i64 0, .int .i64 0, .int .i64 0, .int .i64 0, .int .i64 0, .int .i64 0, .int .i64 0, .int .i64 0, .int .i64 0, .int .i64 0] 23)) (show w.heap.size ≤ w2.heap.size by omega) (VN 16 (hadI b))
      go_wp2_with (first | refine store16 w2.heap.size (hadI b) hN rfl rfl rfl rfl ?_ | refine load16 w2.heap.size hM rfl rfl rfl ?_)
      generalize (w2.alloc (.cells #[.int .i64 0, .int .i64 0, .int .i64 0, .int .i64 0, .int .i64 0, .int .i64 0, .int .i64 0, .int .i64 0, .int .i64 0, .int .i64 0, .int .i64 0, .int .i64 0, .int .i64 0, .int .i64 0, .int .i64 0, .int .i64 0] 23)).setRow w2.heap.size (VN 16 (hadI b)) = w3 at *
      go_loopw [20] (fun i wr => ∃ k : Nat, k ≤ 16 ∧ i = .int .i64 k ∧ Blk wr w2.heap.size 16 23 (fun i => if i < k then codeI b q i else hadI b i) ∧ Blk wr (w.heap.size + 1) 16 23 (fun _ => 0) ∧ Below w.heap.size w wr) (fun i _ => 16 - (intOf i).toNat)
      case atStart => exact ⟨0, by omega, rfl, hM, hZ3, hc3⟩
      case round =>
        clear hN hM hZ3 hc3 hZ2 hc2
        obtain ⟨k, hk, rfl, hM, hZ, hbel⟩ := hrel
        by_cases hlt : k < 16
        · have hi := HI.out k hlt
          have HTr := Lib.hid (HT.out.below hbel HT.out.size)
          go_wp2_with fail
          refine (iQuantize_any _ _ _ HTr.out).mono ?_; rintro e w4 ⟨rfl, hb4⟩
          have hM4 := hM.below hb4 hM.lt
          have hZ4 := hZ.below hb4 hZ.lt
          have hc4 := hbel.trans (hb4.mono (by have := hM.lt; omega))
          have c4 := hM4.cell k hlt
          have f4 := hM4.frozen k
          clear hM hZ hbel hb4
          go_wp2_with fail
          go_roundw
          case rel =>
            refine ⟨k + 1, by omega, by go_num, (hM4.set k _).congr (fun j hj => ?_), hZ4.other (by omega), hc4.setCell (by simp; omega) _⟩
            by_cases e : j = k
            · subst e; rw [if_pos rfl, if_pos (by omega), HE.out j hlt]
            · by_cases e2 : j < k
              · rw [if_neg e, if_pos e2, if_pos (by omega)]
              · rw [if_neg e, if_neg e2, if_neg (by omega)]
          case measure => simp [intOf]; omega
        · have hR : Blk wr w2.heap.size 16 23 (codeI b q) := hM.congr (fun j hj => by rw [if_pos (by omega)])
          go_wp2_with (first | refine load16 w2.heap.size hR rfl rfl rfl ?_ | refine store16 (w.heap.size + 1) (codeI b q) hZ rfl rfl rfl rfl ?_)
          exact ret16 (w.heap.size + 1) Tryd.results7 (hZ.setRow _) rfl rfl ⟨rfl, below_setRow hbel (by omega) _⟩
    · have hok : okB b 255 = false := by simpa using hok
      have HE := Lib.hid (show VN 16 (fun _ => 0) = VN 16 (codeI b q) from VN_congr fun k hk => by unfold codeI; rw [hok]; rfl)
      go_wp2_with (refine store16z (w.heap.size + 1) hZ1 rfl rfl rfl rfl ?_)
      exact ret16 (w.heap.size + 1) Tryd.results7 (hZ1.setRow _) rfl rfl ⟨by rw [HE.out], below_setRow hc1 (by omega) _⟩

end Go.Proofs.YtammofbncdmccaaDoor
