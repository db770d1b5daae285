/- Contracts of DecodeBlock, of the program and of the reference, and the walk of its exact law. -/
import Derived.Test.YtammofbncdmccaaDoorCode
namespace Go.Proofs.YtammofbncdmccaaDoor
open Go.RowKit

theorem l4Decode_any (l : Nat → Int) (q : Int) (w : World) (hl : ∀ k, k < 16 → -4080 ≤ l k ∧ l k ≤ 4080) (h3 : 0 ≤ q) (h4 : q ≤ 15) :
    Calls Tryd.prog 30 #[.agg (VN 16 l), .int .i64 q] w fun e w' => e = .returned (.agg (VN 16 (fun i => rnd16 (appI (deqB l q) i)))) ∧ Below w.heap.size w w' := by
  have HL := Lib.hid hl; clear hl
  have hs := stepOf_bd q h3 h4
  have hA : Blk (((w.alloc (.cells (VN 16 l) 23)).alloc (.cells #[.int .i64 0, .int .i64 0, .int .i64 0, .int .i64 0, .int .i64 0, .int .i64 0, .int .i64 0, .int .i64 0, .int .i64 0, .int .i64 0, .int .i64 0, .int .i64 0, .int .i64 0, .int .i64 0, .int .i64 0, .int .i64 0] 23)).alloc (.cells #[.int .i64 0, .int .i64 0, .int .i64 0, .int .i64 0, .int .i64 0, .int .i64 0, .int .i64 0, .int .i64 0, .int .i64 0, .int .i64 0, .int .i64 0, .int .i64 0, .int .i64 0, .int .i64 0, .int .i64 0, .int .i64 0] 23)) w.heap.size 16 23 l := ((Blk.new w 16 _ l).alloc _).alloc _
  have hZ : Blk (((w.alloc (.cells (VN 16 l) 23)).alloc (.cells #[.int .i64 0, .int .i64 0, .int .i64 0, .int .i64 0, .int .i64 0, .int .i64 0, .int .i64 0, .int .i64 0, .int .i64 0, .int .i64 0, .int .i64 0, .int .i64 0, .int .i64 0, .int .i64 0, .int .i64 0, .int .i64 0] 23)).alloc (.cells #[.int .i64 0, .int .i64 0, .int .i64 0, .int .i64 0, .int .i64 0, .int .i64 0, .int .i64 0, .int .i64 0, .int .i64 0, .int .i64 0, .int .i64 0, .int .i64 0, .int .i64 0, .int .i64 0, .int .i64 0, .int .i64 0] 23)) (w.heap.size + 1) 16 23 (fun _ => 0) := by rw [← zero16]; exact (Blk.new' (by simp)).alloc _
  have hO : Blk (((w.alloc (.cells (VN 16 l) 23)).alloc (.cells #[.int .i64 0, .int .i64 0, .int .i64 0, .int .i64 0, .int .i64 0, .int .i64 0, .int .i64 0, .int .i64 0, .int .i64 0, .int .i64 0, .int .i64 0, .int .i64 0, .int .i64 0, .int .i64 0, .int .i64 0, .int .i64 0] 23)).alloc (.cells #[.int .i64 0, .int .i64 0, .int .i64 0, .int .i64 0, .int .i64 0, .int .i64 0, .int .i64 0, .int .i64 0, .int .i64 0, .int .i64 0, .int .i64 0, .int .i64 0, .int .i64 0, .int .i64 0, .int .i64 0, .int .i64 0] 23)) (w.heap.size + 2) 16 23 (fun _ => 0) := by rw [← zero16]; exact Blk.new' (by simp)
  have hbel : Below w.heap.size w (((w.alloc (.cells (VN 16 l) 23)).alloc (.cells #[.int .i64 0, .int .i64 0, .int .i64 0, .int .i64 0, .int .i64 0, .int .i64 0, .int .i64 0, .int .i64 0, .int .i64 0, .int .i64 0, .int .i64 0, .int .i64 0, .int .i64 0, .int .i64 0, .int .i64 0, .int .i64 0] 23)).alloc (.cells #[.int .i64 0, .int .i64 0, .int .i64 0, .int .i64 0, .int .i64 0, .int .i64 0, .int .i64 0, .int .i64 0, .int .i64 0, .int .i64 0, .int .i64 0, .int .i64 0, .int .i64 0, .int .i64 0, .int .i64 0, .int .i64 0] 23)) := (((Below.refl _ _).alloc (Nat.le_refl _) _).alloc (by simp) _).alloc (by simp; omega) _
  go_enter Tryd.func30, Tryd.ntmps30
  go_wp2_with fail
  generalize ((w.alloc (.cells (VN 16 l) 23)).alloc (.cells #[.int .i64 0, .int .i64 0, .int .i64 0, .int .i64 0, .int .i64 0, .int .i64 0, .int .i64 0, .int .i64 0, .int .i64 0, .int .i64 0, .int .i64 0, .int .i64 0, .int .i64 0, .int .i64 0, .int .i64 0, .int .i64 0] 23)).alloc (.cells #[.int .i64 0, .int .i64 0, .int .i64 0, .int .i64 0, .int .i64 0, .int .i64 0, .int .i64 0, .int .i64 0, .int .i64 0, .int .i64 0, .int .i64 0, .int .i64 0, .int .i64 0, .int .i64 0, .int .i64 0, .int .i64 0] 23) = w0 at *
  go_loopw [6] (fun i wr => ∃ k : Nat, k ≤ 16 ∧ i = .int .i64 k ∧ Blk wr w.heap.size 16 23 l ∧ Blk wr (w.heap.size + 1) 16 23 (fun _ => 0) ∧ Blk wr (w.heap.size + 2) 16 23 (fun i => if i < k then deqB l q i else 0) ∧ Below w.heap.size w wr) (fun i _ => 16 - (intOf i).toNat)
  case atStart => exact ⟨0, by omega, rfl, hA, hZ, hO, hbel⟩
  case round =>
    clear hA hZ hO hbel
    obtain ⟨k, hk, rfl, hA, hZ, hO, hbel⟩ := hrel
    by_cases hlt : k < 16
    · have c1 := hA.cell k hlt
      have hlk := HL.out k hlt
      have hm := mul_bd (l k) (stepOf q) hlk.1 hlk.2 hs.1 hs.2
      have e1 : IntKind.i64.wrap (l k * stepOf q) = l k * stepOf q := IntWalk.i64_in _ (by omega)
      have hk1 : (k : Int) < 16 := by omega
      have hk0 : (0 : Int) ≤ k := by omega
      go_wp2_with fail
      go_region_held3 (fun w' => w'.cell? ⟨w.heap.size, k, none⟩ = some (.int .i64 (l k))) (first | assumption | exact (hA1.other (by omega)).cell k hlt | go_keep)
        (first | (go_at_call 36; refine (sQuantStep_any _ _).mono ?_; rintro e w1 ⟨rfl, hb1⟩; have hA1 := (hA.drewN 1).below hb1 hA.lt; have hZ1 := (hZ.drewN 1).below hb1 hZ.lt; have hO1 := (hO.drewN 1).below hb1 hO.lt; have hc1 := (below_drewN hbel 1).trans (hb1.mono (Nat.le_of_lt hA.lt)); have c9 := hO1.cell k hlt; have f9 := hO1.frozen k; have c8 := hA1.cell k hlt) | (go_at_call 40; refine (l1Clip_any _ _ _ _ (by omega)).mono ?_; rintro e w' ⟨rfl, rfl⟩))
      go_wp2_with fail
      go_roundw
      case rel =>
        refine ⟨k + 1, by omega, by go_num, hA1.other (by omega), hZ1.other (by omega), (hO1.set k _).congr (fun j hj => ?_), hc1.setCell (by simp; omega) _⟩
        by_cases e : j = k
        · subst e; rw [if_pos rfl, if_pos (by omega)]; rfl
        · by_cases e2 : j < k
          · rw [if_neg e, if_pos e2, if_pos (by omega)]
          · rw [if_neg e, if_neg e2, if_neg (by omega)]
      case measure => simp [intOf]; omega
    · have hR : Blk wr (w.heap.size + 2) 16 23 (deqB l q) := hO.congr (fun j hj => by rw [if_pos (by omega)])
      go_wp2_with (refine load16 (w.heap.size + 2) hR rfl rfl rfl ?_)
      refine (l3Inverse_any _ _ (deqB_bd l q)).mono ?_; rintro e w2 ⟨rfl, hb2⟩
      have hZ2 := hZ.below hb2 hZ.lt
      have hc2 := hbel.trans (hb2.mono (Nat.le_of_lt hA.lt))
      go_wp2_with (refine store16 (w.heap.size + 1) (fun i => rnd16 (appI (deqB l q) i)) hZ2 rfl rfl rfl rfl ?_)
      exact ret16 (w.heap.size + 1) Tryd.results30 (hZ2.setRow _) rfl rfl ⟨rfl, below_setRow hc2 (by omega) _⟩

theorem sDecode_any (l : Nat → Int) (q : Int) (w : World) :
    Calls Tryd.prog 14 #[.agg (VN 16 l), .int .i64 q] w fun e w' => e = .returned (.agg (VN 16 (decI l q))) ∧ Below w.heap.size w w' := by
  have hA : Blk ((w.alloc (.cells (VN 16 l) 23)).alloc (.cells #[.int .i64 0, .int .i64 0, .int .i64 0, .int .i64 0, .int .i64 0, .int .i64 0, .int .i64 0, .int .i64 0, .int .i64 0, .int .i64 0, .int .i64 0, .int .i64 0, .int .i64 0, .int .i64 0, .int .i64 0, .int .i64 0] 23)) w.heap.size 16 23 l := (Blk.new w 16 _ l).alloc _
  have hZ : Blk ((w.alloc (.cells (VN 16 l) 23)).alloc (.cells #[.int .i64 0, .int .i64 0, .int .i64 0, .int .i64 0, .int .i64 0, .int .i64 0, .int .i64 0, .int .i64 0, .int .i64 0, .int .i64 0, .int .i64 0, .int .i64 0, .int .i64 0, .int .i64 0, .int .i64 0, .int .i64 0] 23)) (w.heap.size + 1) 16 23 (fun _ => 0) := by rw [← zero16]; exact Blk.new' (by simp)
  have hbel : Below w.heap.size w ((w.alloc (.cells (VN 16 l) 23)).alloc (.cells #[.int .i64 0, .int .i64 0, .int .i64 0, .int .i64 0, .int .i64 0, .int .i64 0, .int .i64 0, .int .i64 0, .int .i64 0, .int .i64 0, .int .i64 0, .int .i64 0, .int .i64 0, .int .i64 0, .int .i64 0, .int .i64 0] 23)) := ((Below.refl _ _).alloc (Nat.le_refl _) _).alloc (by simp) _
  go_enter Tryd.func14, Tryd.ntmps14
  go_wp2_with (refine load16 w.heap.size hA rfl rfl rfl ?_)
  generalize (w.alloc (.cells (VN 16 l) 23)).alloc (.cells #[.int .i64 0, .int .i64 0, .int .i64 0, .int .i64 0, .int .i64 0, .int .i64 0, .int .i64 0, .int .i64 0, .int .i64 0, .int .i64 0, .int .i64 0, .int .i64 0, .int .i64 0, .int .i64 0, .int .i64 0, .int .i64 0] 23) = w0 at *
  refine (l3Ok_any _ _ _ (by omega) (by omega)).mono ?_; rintro e w1 ⟨rfl, hb1⟩
  have hA1 := hA.below hb1 hA.lt
  have hZ1 := hZ.below hb1 hZ.lt
  have hc1 := hbel.trans (hb1.mono (Nat.le_of_lt hA.lt))
  clear hA hZ hbel hb1
  by_cases hok : okB l 4080 = true
  · by_cases hq : q < 0 ∨ 15 < q
    · have HE := Lib.hid (show VN 16 (fun _ => 0) = VN 16 (decI l q) from VN_congr fun k hk => by unfold decI qB; rw [decide_eq_false (by omega), Bool.and_false]; rfl)
      have HQ := Lib.hid hq; clear hq
      go_wp2_with fail
      refine (l1In_no _ _ _ _ (by have := HQ.out; omega)).mono ?_; rintro e w' ⟨rfl, rfl⟩
      go_wp2_with (refine store16z (w.heap.size + 1) hZ1 rfl rfl rfl rfl ?_)
      exact ret16 (w.heap.size + 1) Tryd.results14 (hZ1.setRow _) rfl rfl ⟨by rw [HE.out], below_setRow hc1 (by omega) _⟩
    · have hq0 : 0 ≤ q := by omega
      have hq1 : q ≤ 15 := by omega
      clear hq
      have HO := Lib.hid (okB_out hok)
      have HE := Lib.hid (show VN 16 (fun i => rnd16 (appI (deqB l q) i)) = VN 16 (decI l q) from VN_congr fun k hk => by unfold decI qB; rw [hok, decide_eq_true ⟨hq0, hq1⟩]; rfl)
      go_wp2_with fail
      refine (l1In_yes _ _ _ _ (by omega) (by omega)).mono ?_; rintro e w' ⟨rfl, rfl⟩
      go_wp2_with (refine load16 w.heap.size hA1 rfl rfl rfl ?_)
      refine (l4Decode_any l q _ HO.out hq0 hq1).mono ?_; rintro e w2 ⟨rfl, hb2⟩
      have hZ2 := hZ1.below hb2 hZ1.lt
      have hc2 := hc1.trans (hb2.mono (Nat.le_of_lt hA1.lt))
      rw [HE.out]
      go_wp2_with (refine store16 (w.heap.size + 1) (decI l q) hZ2 rfl rfl rfl rfl ?_)
      exact ret16 (w.heap.size + 1) Tryd.results14 (hZ2.setRow _) rfl rfl ⟨rfl, below_setRow hc2 (by omega) _⟩
  · have hok : okB l 4080 = false := by simpa using hok
    have HE := Lib.hid (show VN 16 (fun _ => 0) = VN 16 (decI l q) from VN_congr fun k hk => by unfold decI; rw [hok]; rfl)
    go_wp2_with (refine store16z (w.heap.size + 1) hZ1 rfl rfl rfl rfl ?_)
    exact ret16 (w.heap.size + 1) Tryd.results14 (hZ1.setRow _) rfl rfl ⟨by rw [HE.out], below_setRow hc1 (by omega) _⟩

theorem iDecode_any (l : Nat → Int) (q : Int) (w : World) (ht : HasTab w) :
    Calls Tryd.prog 11 #[.agg (VN 16 l), .int .i64 q] w fun e w' => e = .returned (.agg (VN 16 (decI l q))) ∧ Below w.heap.size w w' := by
  have HT := Lib.hid ht; clear ht
  have hA : Blk ((w.alloc (.cells (VN 16 l) 23)).alloc (.cells #[.int .i64 0, .int .i64 0, .int .i64 0, .int .i64 0, .int .i64 0, .int .i64 0, .int .i64 0, .int .i64 0, .int .i64 0, .int .i64 0, .int .i64 0, .int .i64 0, .int .i64 0, .int .i64 0, .int .i64 0, .int .i64 0] 23)) w.heap.size 16 23 l := (Blk.new w 16 _ l).alloc _
  have hZ : Blk ((w.alloc (.cells (VN 16 l) 23)).alloc (.cells #[.int .i64 0, .int .i64 0, .int .i64 0, .int .i64 0, .int .i64 0, .int .i64 0, .int .i64 0, .int .i64 0, .int .i64 0, .int .i64 0, .int .i64 0, .int .i64 0, .int .i64 0, .int .i64 0, .int .i64 0, .int .i64 0] 23)) (w.heap.size + 1) 16 23 (fun _ => 0) := by rw [← zero16]; exact Blk.new' (by simp)
  have hbel : Below w.heap.size w ((w.alloc (.cells (VN 16 l) 23)).alloc (.cells #[.int .i64 0, .int .i64 0, .int .i64 0, .int .i64 0, .int .i64 0, .int .i64 0, .int .i64 0, .int .i64 0, .int .i64 0, .int .i64 0, .int .i64 0, .int .i64 0, .int .i64 0, .int .i64 0, .int .i64 0, .int .i64 0] 23)) := ((Below.refl _ _).alloc (Nat.le_refl _) _).alloc (by simp) _
  by_cases hq : q < 0 ∨ 15 < q
  · have HE := Lib.hid (show VN 16 (fun _ => 0) = VN 16 (decI l q) from VN_congr fun k hk => by unfold decI qB; rw [decide_eq_false (by omega), Bool.and_false]; rfl)
    have HQ := Lib.hid hq; clear hq
    go_enter Tryd.func11, Tryd.ntmps11
    go_wp2_with fail
    refine (qualityValid_no _ _ HQ.out).mono ?_; rintro e w' ⟨rfl, rfl⟩
    go_wp2_with (refine store16z (w.heap.size + 1) hZ rfl rfl rfl rfl ?_)
    exact ret16 (w.heap.size + 1) Tryd.results11 (hZ.setRow _) rfl rfl ⟨by rw [HE.out], below_setRow hbel (by omega) _⟩
  · have hq0 : 0 ≤ q := by omega
    have hq1 : q ≤ 15 := by omega
    clear hq
    go_enter Tryd.func11, Tryd.ntmps11
    go_wp2_with fail
    refine (qualityValid_yes _ _ hq0 hq1).mono ?_; rintro e w' ⟨rfl, rfl⟩
    go_wp2_with (refine load16 w.heap.size hA rfl rfl rfl ?_)
    generalize (w.alloc (.cells (VN 16 l) 23)).alloc (.cells #[.int .i64 0, .int .i64 0, .int .i64 0, .int .i64 0, .int .i64 0, .int .i64 0, .int .i64 0, .int .i64 0, .int .i64 0, .int .i64 0, .int .i64 0, .int .i64 0, .int .i64 0, .int .i64 0, .int .i64 0, .int .i64 0] 23) = w0 at *
    refine (blockWithin_any _ _ _ (by omega) (by omega)).mono ?_; rintro e w1 ⟨rfl, hb1⟩
    have hA1 := hA.below hb1 hA.lt
    have hZ1 := hZ.below hb1 hZ.lt
    have hc1 := hbel.trans (hb1.mono (Nat.le_of_lt hA.lt))
    clear hA hZ hbel hb1
    by_cases hok : okB l 4080 = true
    · have HO := Lib.hid (okB_out hok)
      have HD := Lib.hid (show ∀ k, k < 16 → deqI (l k) q = deqB l q k from fun k hk => by
        have := HO.out k hk
        unfold deqI deqB
        rw [if_neg (by omega)])
      have HE := Lib.hid (show VN 16 (invI (deqB l q)) = VN 16 (decI l q) from VN_congr fun k hk => by unfold decI qB invI; rw [hok, decide_eq_true ⟨hq0, hq1⟩, okB_true (deqB_bd l q)]; rfl)
      have HI := Lib.hid (run_index16 l)
      go_wp2_with (refine load16 w.heap.size hA1 rfl rfl rfl ?_)
      go_loopw [17] (fun i wr => ∃ k : Nat, k ≤ 16 ∧ i = .int .i64 k ∧ Blk wr w.heap.size 16 23 (fun i => if i < k then deqB l q i else l i) ∧ Blk wr (w.heap.size + 1) 16 23 (fun _ => 0) ∧ Below w.heap.size w wr) (fun i _ => 16 - (intOf i).toNat)
      case atStart => exact ⟨0, by omega, rfl, hA1, hZ1, hc1⟩
      case round =>
        clear hA1 hZ1 hc1
        obtain ⟨k, hk, rfl, hA, hZ, hbel⟩ := hrel
        by_cases hlt : k < 16
        · have hi := HI.out k hlt
          have HTr := Lib.hid (HT.out.below hbel HT.out.size)
          have c4 := hA.cell k hlt
          have f4 := hA.frozen k
          go_wp2_with fail
          refine (iDequantize_any _ _ _ HTr.out).mono ?_; rintro e w' ⟨rfl, rfl⟩
          go_wp2_with fail
          go_roundw
          case rel =>
            refine ⟨k + 1, by omega, by go_num, (hA.set k _).congr (fun j hj => ?_), hZ.other (by omega), hbel.setCell (by simp) _⟩
            by_cases e : j = k
            · subst e; rw [if_pos rfl, if_pos (by omega), HD.out j hlt]
            · by_cases e2 : j < k
              · rw [if_neg e, if_pos e2, if_pos (by omega)]
              · rw [if_neg e, if_neg e2, if_neg (by omega)]
          case measure => simp [intOf]; omega
        · have hR : Blk wr w.heap.size 16 23 (deqB l q) := hA.congr (fun j hj => by rw [if_pos (by omega)])
          go_wp2_with (refine load16 w.heap.size hR rfl rfl rfl ?_)
          refine (iInverse_any _ _).mono ?_; rintro e w2 ⟨rfl, hb2⟩
          have hZ2 := hZ.below hb2 hZ.lt
          have hc2 := hbel.trans (hb2.mono (Nat.le_of_lt hA.lt))
          rw [HE.out]
          go_wp2_with (refine store16 (w.heap.size + 1) (decI l q) hZ2 rfl rfl rfl rfl ?_)
          exact ret16 (w.heap.size + 1) Tryd.results11 (hZ2.setRow _) rfl rfl ⟨rfl, below_setRow hc2 (by omega) _⟩
    · have hok : okB l 4080 = false := by simpa using hok
      have HE := Lib.hid (show VN 16 (fun _ => 0) = VN 16 (decI l q) from VN_congr fun k hk => by unfold decI; rw [hok]; rfl)
      go_wp2_with (refine store16z (w.heap.size + 1) hZ1 rfl rfl rfl rfl ?_)
      exact ret16 (w.heap.size + 1) Tryd.results11 (hZ1.setRow _) rfl rfl ⟨by rw [HE.out], below_setRow hc1 (by omega) _⟩

end Go.Proofs.YtammofbncdmccaaDoor
