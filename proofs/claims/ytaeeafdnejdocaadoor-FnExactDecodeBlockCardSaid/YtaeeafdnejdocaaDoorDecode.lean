/- Contracts of DecodeBlock, of the program and of the reference, and the walk of its exact law. -/
import Derived.Test.YtaeeafdnejdocaaDoorCode
namespace Go.Proofs.YtaeeafdnejdocaaDoor
open Go.RowKit

theorem l4Decode_any (l : Nat → Int) (q : Int) (w : World) (hl : ∀ k, k < 16 → -4080 ≤ l k ∧ l k ≤ 4080) (h3 : 0 ≤ q) (h4 : q ≤ 15) :
    Calls Tryd.prog 19 #[.agg (VN 16 l), .int .i64 q] w fun e w' => e = .returned (.agg (VN 16 (fun i => rnd16 (appI (deqB l q) i)))) ∧ Below w.heap.size w w' := by
  have HL := Lib.hid hl; clear hl
  have hs := stepOf_bd q h3 h4
  have hA : Blk (((w.alloc (.cells (VN 16 l) 22)).alloc (.cells #[.int .i64 0, .int .i64 0, .int .i64 0, .int .i64 0, .int .i64 0, .int .i64 0, .int .i64 0, .int .i64 0, .int .i64 0, .int .i64 0, .int .i64 0, .int .i64 0, .int .i64 0, .int .i64 0, .int .i64 0, .int .i64 0] 22)).alloc (.cells #[.int .i64 0, .int .i64 0, .int .i64 0, .int .i64 0, .int .i64 0, .int .i64 0, .int .i64 0, .int .i64 0, .int .i64 0, .int .i64 0, .int .i64 0, .int .i64 0, .int .i64 0, .int .i64 0, .int .i64 0, .int .i64 0] 22)) w.heap.size 16 22 l := ((Blk.new w 16 _ l).alloc _).alloc _
  have hZ : Blk (((w.alloc (.cells (VN 16 l) 22)).alloc (.cells #[.int .i64 0, .int .i64 0, .int .i64 0, .int .i64 0, .int .i64 0, .int .i64 0, .int .i64 0, .int .i64 0, .int .i64 0, .int .i64 0, .int .i64 0, .int .i64 0, .int .i64 0, .int .i64 0, .int .i64 0, .int .i64 0] 22)).alloc (.cells #[.int .i64 0, .int .i64 0, .int .i64 0, .int .i64 0, .int .i64 0, .int .i64 0, .int .i64 0, .int .i64 0, .int .i64 0, .int .i64 0, .int .i64 0, .int .i64 0, .int .i64 0, .int .i64 0, .int .i64 0, .int .i64 0] 22)) (w.heap.size + 1) 16 22 (fun _ => 0) := by rw [← zero16]; exact (Blk.new' (by simp)).alloc _
  have hO : Blk (((w.alloc (.cells (VN 16 l) 22)).alloc (.cells #[.int .i64 0, .int .i64 0, .int .i64 0, .int .i64 0, .int .i64 0, .int .i64 0, .int .i64 0, .int .i64 0, .int .i64 0, .int .i64 0, .int .i64 0, .int .i64 0, .int .i64 0, .int .i64 0, .int .i64 0, .int .i64 0] 22)).alloc (.cells #[.int .i64 0, .int .i64 0, .int .i64 0, .int .i64 0, .int .i64 0, .int .i64 0, .int .i64 0, .int .i64 0, .int .i64 0, .int .i64 0, .int .i64 0, .int .i64 0, .int .i64 0, .int .i64 0, .int .i64 0, .int .i64 0] 22)) (w.heap.size + 2) 16 22 (fun _ => 0) := by rw [← zero16]; exact Blk.new' (by simp)
  have hbel : Below w.heap.size w (((w.alloc (.cells (VN 16 l) 22)).alloc (.cells #[.int .i64 0, .int .i64 0, .int .i64 0, .int .i64 0, .int .i64 0, .int .i64 0, .int .i64 0, .int .i64 0, .int .i64 0, .int .i64 0, .int .i64 0, .int .i64 0, .int .i64 0, .int .i64 0, .int .i64 0, .int .i64 0] 22)).alloc (.cells #[.int .i64 0, .int .i64 0, .int .i64 0, .int .i64 0, .int .i64 0, .int .i64 0, .int .i64 0, .int .i64 0, .int .i64 0, .int .i64 0, .int .i64 0, .int .i64 0, .int .i64 0, .int .i64 0, .int .i64 0, .int .i64 0] 22)) := (((Below.refl _ _).alloc (Nat.le_refl _) _).alloc (by simp) _).alloc (by simp; omega) _
  go_enter Tryd.func19, Tryd.ntmps19
  go_wp2_with fail
  generalize ((w.alloc (.cells (VN 16 l) 22)).alloc (.cells #[.int .i64 0, .int .i64 0, .int .i64 0, .int .i64 0, .int .i64 0, .int .i64 0, .int .i64 0, .int .i64 0, .int .i64 0, .int .i64 0, .int .i64 0, .int .i64 0, .int .i64 0, .int .i64 0, .int .i64 0, .int .i64 0] 22)).alloc (.cells #[.int .i64 0, .int .i64 0, .int .i64 0, .int .i64 0, .int .i64 0, .int .i64 0, .int .i64 0, .int .i64 0, .int .i64 0, .int .i64 0, .int .i64 0, .int .i64 0, .int .i64 0, .int .i64 0, .int .i64 0, .int .i64 0] 22) = w0 at *
  go_loopw [6] (fun i wr => ∃ k : Nat, k ≤ 16 ∧ i = .int .i64 k ∧ Blk wr w.heap.size 16 22 l ∧ Blk wr (w.heap.size + 1) 16 22 (fun _ => 0) ∧ Blk wr (w.heap.size + 2) 16 22 (fun i => if i < k then deqB l q i else 0) ∧ Below w.heap.size w wr) (fun i _ => 16 - (intOf i).toNat)
  case atStart => exact ⟨0, by omega, rfl, hA, hZ, hO, hbel⟩
  case round =>
    clear hA hZ hO hbel
    obtain ⟨k, hk, rfl, hA, hZ, hO, hbel⟩ := hrel
    by_cases hlt : k < 16
    · have c1 := hA.cell k hlt
      have hlk := HL.out k hlt
      have hm := mul_bd (l k) (stepOf q) hlk.1 hlk.2 hs.1 hs.2
      have e1 : IntKind.i64.wrap (l k * stepOf q) = l k * stepOf q := IntWalk.i64_in _ (by omega)
      have hk1 : (k : Int) < 16 := by omega
      have hk0 : (0 : Int) ≤ k := by omega
      go_wp2_with fail
      go_region_held3 (fun w' => w'.cell? ⟨w.heap.size, k, none⟩ = some (.int .i64 (l k))) (first | assumption | exact (hA1.other (by omega)).cell k hlt | go_keep)
        (first | (go_at_call 23; refine (sQuantStep_any _ _).mono ?_; rintro e w1 ⟨rfl, hb1⟩; have hA1 := (hA.drewN 1).below hb1 hA.lt; have hZ1 := (hZ.drewN 1).below hb1 hZ.lt; have hO1 := (hO.drewN 1).below hb1 hO.lt; have hc1 := (below_drewN hbel 1).trans (hb1.mono (Nat.le_of_lt hA.lt)); have c9 := hO1.cell k hlt; have f9 := hO1.frozen k; have c8 := hA1.cell k hlt) | (go_at_call 27; refine (l1Clip_any _ _ _ _ (by omega)).mono ?_; rintro e w' ⟨rfl, rfl⟩))
      go_wp2_with fail
      go_roundw
      case rel =>
        refine ⟨k + 1, by omega, by go_num, hA1.other (by omega), hZ1.other (by omega), (hO1.set k _).congr (fun j hj => ?_), hc1.setCell (by simp; omega) _⟩
        by_cases e : j = k
        · subst e; rw [if_pos rfl, if_pos (by omega)]; rfl
        · by_cases e2 : j < k
          · rw [if_neg e, if_pos e2, if_pos (by omega)]
          · rw [if_neg e, if_neg e2, if_neg (by omega)]
      case measure => simp [intOf]; omega
    · have hR : Blk wr (w.heap.size + 2) 16 22 (deqB l q) := hO.congr (fun j hj => by rw [if_pos (by omega)])
      go_wp2_with (refine load16 (w.heap.size + 2) hR rfl rfl rfl ?_)
      refine (l3Inverse_any _ _ (deqB_bd l q)).mono ?_; rintro e w2 ⟨rfl, hb2⟩
      have hZ2 := hZ.below hb2 hZ.lt
      have hc2 := hbel.trans (hb2.mono (Nat.le_of_lt hA.lt))
      go_wp2_with (refine store16 (w.heap.size + 1) (fun i => rnd16 (appI (deqB l q) i)) hZ2 rfl rfl rfl rfl ?_)
      exact ret16 (w.heap.size + 1) Tryd.results19 (hZ2.setRow _) rfl rfl ⟨rfl, below_setRow hc2 (by omega) _⟩

theorem sDecode_any (l : Nat → Int) (q : Int) (w : World) :
    Calls Tryd.prog 9 #[.agg (VN 16 l), .int .i64 q] w fun e w' => e = .returned (.agg (VN 16 (decI l q))) ∧ Below w.heap.size w w' := by
  have hA : Blk ((w.alloc (.cells (VN 16 l) 22)).alloc (.cells #[.int .i64 0, .int .i64 0, .int .i64 0, .int .i64 0, .int .i64 0, .int .i64 0, .int .i64 0, .int .i64 0, .int .i64 0, .int .i64 0, .int .i64 0, .int .i64 0, .int .i64 0, .int .i64 0, .int .i64 0, .int .i64 0] 22)) w.heap.size 16 22 l := (Blk.new w 16 _ l).alloc _
  have hZ : Blk ((w.alloc (.cells (VN 16 l) 22)).alloc (.cells #[.int .i64 0, .int .i64 0, .int .i64 0, .int .i64 0, .int .i64 0, .int .i64 0, .int .i64 0, .int .i64 0, .int .i64 0, .int .i64 0, .int .i64 0, .int .i64 0, .int .i64 0, .int .i64 0, .int .i64 0, .int .i64 0] 22)) (w.heap.size + 1) 16 22 (fun _ => 0) := by rw [← zero16]; exact Blk.new' (by simp)
  have hbel : Below w.heap.size w ((w.alloc (.cells (VN 16 l) 22)).alloc (.cells #[.int .i64 0, .int .i64 0, .int .i64 0, .int .i64 0, .int .i64 0, .int .i64 0, .int .i64 0, .int .i64 0, .int .i64 0, .int .i64 0, .int .i64 0, .int .i64 0, .int .i64 0, .int .i64 0, .int .i64 0, .int .i64 0] 22)) := ((Below.refl _ _).alloc (Nat.le_refl _) _).alloc (by simp) _
  go_enter Tryd.func9, Tryd.ntmps9
  go_wp2_with (refine load16 w.heap.size hA rfl rfl rfl ?_)
  generalize (w.alloc (.cells (VN 16 l) 22)).alloc (.cells #[.int .i64 0, .int .i64 0, .int .i64 0, .int .i64 0, .int .i64 0, .int .i64 0, .int .i64 0, .int .i64 0, .int .i64 0, .int .i64 0, .int .i64 0, .int .i64 0, .int .i64 0, .int .i64 0, .int .i64 0, .int .i64 0] 22) = w0 at *
  refine (l3Ok_any _ _ _ (by omega) (by omega)).mono ?_; rintro e w1 ⟨rfl, hb1⟩
  have hA1 := hA.below hb1 hA.lt
  have hZ1 := hZ.below hb1 hZ.lt
  have hc1 := hbel.trans (hb1.mono (Nat.le_of_lt hA.lt))
  clear hA hZ hbel hb1
  by_cases hok : okB l 4080 = true
  · by_cases hq : q < 0 ∨ 15 < q
    · have HE := Lib.hid (show VN 16 (fun _ => 0) = VN 16 (decI l q) from VN_congr fun k hk => by unfold decI qB; rw [decide_eq_false (by omega), Bool.and_false]; rfl)
      have HQ := Lib.hid hq; clear hq
      go_wp2_with fail
      refine (l1In_no _ _ _ _ (by have := HQ.out; omega)).mono ?_; rintro e w' ⟨rfl, rfl⟩
      go_wp2_with (refine store16z (w.heap.size + 1) hZ1 rfl rfl rfl rfl ?_)
      exact ret16 (w.heap.size + 1) Tryd.results9 (hZ1.setRow _) rfl rfl ⟨by rw [HE.out], below_setRow hc1 (by omega) _⟩
    · have hq0 : 0 ≤ q := by omega
      have hq1 : q ≤ 15 := by omega
      clear hq
      have HO := Lib.hid (okB_out hok)
      have HE := Lib.hid (show VN 16 (fun i => rnd16 (appI (deqB l q) i)) = VN 16 (decI l q) from VN_congr fun k hk => by unfold decI qB; rw [hok, decide_eq_true ⟨hq0, hq1⟩]; rfl)
      go_wp2_with fail
      refine (l1In_yes _ _ _ _ (by omega) (by omega)).mono ?_; rintro e w' ⟨rfl, rfl⟩
      go_wp2_with (refine load16 w.heap.size hA1 rfl rfl rfl ?_)
      refine (l4Decode_any l q _ HO.out hq0 hq1).mono ?_; rintro e w2 ⟨rfl, hb2⟩
      have hZ2 := hZ1.below hb2 hZ1.lt
      have hc2 := hc1.trans (hb2.mono (Nat.le_of_lt hA1.lt))
      rw [HE.out]
      go_wp2_with (refine store16 (w.heap.size + 1) (decI l q) hZ2 rfl rfl rfl rfl ?_)
      exact ret16 (w.heap.size + 1) Tryd.results9 (hZ2.setRow _) rfl rfl ⟨rfl, below_setRow hc2 (by omega) _⟩
  · have hok : okB l 4080 = false := by simpa using hok
    have HE := Lib.hid (show VN 16 (fun _ => 0) = VN 16 (decI l q) from VN_congr fun k hk => by unfold decI; rw [hok]; rfl)
    go_wp2_with (refine store16z (w.heap.size + 1) hZ1 rfl rfl rfl rfl ?_)
    exact ret16 (w.heap.size + 1) Tryd.results9 (hZ1.setRow _) rfl rfl ⟨by rw [HE.out], below_setRow hc1 (by omega) _⟩

theorem iDecode_any (l : Nat → Int) (q : Int) (w : World) (ht : HasTab w) :
    Calls Tryd.prog 10 #[.agg (VN 16 l), .int .i64 q] w fun e w' => e = .returned (.agg (VN 16 (decI l q))) ∧ Below w.heap.size w w' := by
  have HT := Lib.hid ht; clear ht
  have hA : Blk ((w.alloc (.cells (VN 16 l) 22)).alloc (.cells #[.int .i64 0, .int .i64 0, .int .i64 0, .int .i64 0, .int .i64 0, .int .i64 0, .int .i64 0, .int .i64 0, .int .i64 0, .int .i64 0, .int .i64 0, .int .i64 0, .int .i64 0, .int .i64 0, .int .i64 0, .int .i64 0] 22)) w.heap.size 16 22 l := (Blk.new w 16 _ l).alloc _
  have hZ : Blk ((w.alloc (.cells (VN 16 l) 22)).alloc (.cells #[.int .i64 0, .int .i64 0, .int .i64 0, .int .i64 0, .int .i64 0, .int .i64 0, .int .i64 0, .int .i64 0, .int .i64 0, .int .i64 0, .int .i64 0, .int .i64 0, .int .i64 0, .int .i64 0, .int .i64 0, .int .i64 0] 22)) (w.heap.size + 1) 16 22 (fun _ => 0) := by rw [← zero16]; exact Blk.new' (by simp)
  have hbel : Below w.heap.size w ((w.alloc (.cells (VN 16 l) 22)).alloc (.cells #[.int .i64 0, .int .i64 0, .int .i64 0, .int .i64 0, .int .i64 0, .int .i64 0, .int .i64 0, .int .i64 0, .int .i64 0, .int .i64 0, .int .i64 0, .int .i64 0, .int .i64 0, .int .i64 0, .int .i64 0, .int .i64 0] 22)) := ((Below.refl _ _).alloc (Nat.le_refl _) _).alloc (by simp) _
  by_cases hq : q < 0 ∨ 15 < q
  · have HE := Lib.hid (show VN 16 (fun _ => 0) = VN 16 (decI l q) from VN_congr fun k hk => by unfold decI qB; rw [decide_eq_false (by omega), Bool.and_false]; rfl)
    have HQ := Lib.hid hq; clear hq
    go_enter Tryd.func10, Tryd.ntmps10
    go_wp2_with fail
    refine (qualityValid_no _ _ HQ.out).mono ?_; rintro e w' ⟨rfl, rfl⟩
    go_wp2_with (refine store16z (w.heap.size + 1) hZ rfl rfl rfl rfl ?_)
    exact ret16 (w.heap.size + 1) Tryd.results10 (hZ.setRow _) rfl rfl ⟨by rw [HE.out], below_setRow hbel (by omega) _⟩
  · have hq0 : 0 ≤ q := by omega
    have hq1 : q ≤ 15 := by omega
    clear hq
    go_enter Tryd.func10, Tryd.ntmps10
    go_wp2_with fail
    refine (qualityValid_yes _ _ hq0 hq1).mono ?_; rintro e w' ⟨rfl, rfl⟩
    go_wp2_with (refine load16 w.heap.size hA rfl rfl rfl ?_)
    generalize (w.alloc (.cells (VN 16 l) 22)).alloc (.cells #[.int .i64 0, .int .i64 0, .int .i64 0, .int .i64 0, .int .i64 0, .int .i64 0, .int .i64 0, .int .i64 0, .int .i64 0, .int .i64 0, .int .i64 0, .int .i64 0, .int .i64 0, .int .i64 0, .int .i64 0, .int .i64 0] 22) = w0 at *
    refine (blockWithin_any _ _ _ (by omega) (by omega)).mono ?_; rintro e w1 ⟨rfl, hb1⟩
    have hA1 := hA.below hb1 hA.lt
    have hZ1 := hZ.below hb1 hZ.lt
    have hc1 := hbel.trans (hb1.mono (Nat.le_of_lt hA.lt))
    clear hA hZ hbel hb1
    by_cases hok : okB l 4080 = true
    · have HO := Lib.hid (okB_out hok)
      have HD := Lib.hid (show ∀ k, k < 16 → deqI (l k) q = deqB l q k from fun k hk => by
        have := HO.out k hk
        unfold deqI deqB
        rw [if_neg (by omega)])
      have HE := Lib.hid (show VN 16 (invI (deqB l q)) = VN 16 (decI l q) from VN_congr fun k hk => by unfold decI qB invI; rw [hok, decide_eq_true ⟨hq0, hq1⟩, okB_true (deqB_bd l q)]; rfl)
      have HI := Lib.hid (run_index16 l)
      go_wp2_with (refine load16 w.heap.size hA1 rfl rfl rfl ?_)
      go_loopw [17] (fun i wr => ∃ k : Nat, k ≤ 16 ∧ i = .int .i64 k ∧ Blk wr w.heap.size 16 22 (fun i => if i < k then deqB l q i else l i) ∧ Blk wr (w.heap.size + 1) 16 22 (fun _ => 0) ∧ Below w.heap.size w wr) (fun i _ => 16 - (intOf i).toNat)
      case atStart => exact ⟨0, by omega, rfl, hA1, hZ1, hc1⟩
      case round =>
        clear hA1 hZ1 hc1
        obtain ⟨k, hk, rfl, hA, hZ, hbel⟩ := hrel
        by_cases hlt : k < 16
        · have hi := HI.out k hlt
          have HTr := Lib.hid (HT.out.below hbel HT.out.size)
          have c4 := hA.cell k hlt
          have f4 := hA.frozen k
          go_wp2_with fail
          refine (iDequantize_any _ _ _ HTr.out).mono ?_; rintro e w' ⟨rfl, rfl⟩
          go_wp2_with fail
          go_roundw
          case rel =>
            refine ⟨k + 1, by omega, by go_num, (hA.set k _).congr (fun j hj => ?_), hZ.other (by omega), hbel.setCell (by simp) _⟩
            by_cases e : j = k
            · subst e; rw [if_pos rfl, if_pos (by omega), HD.out j hlt]
            · by_cases e2 : j < k
              · rw [if_neg e, if_pos e2, if_pos (by omega)]
              · rw [if_neg e, if_neg e2, if_neg (by omega)]
          case measure => simp [intOf]; omega
        · have hR : Blk wr w.heap.size 16 22 (deqB l q) := hA.congr (fun j hj => by rw [if_pos (by omega)])
          go_wp2_with (refine load16 w.heap.size hR rfl rfl rfl ?_)
          refine (iInverse_any _ _).mono ?_; rintro e w2 ⟨rfl, hb2⟩
          have hZ2 := hZ.below hb2 hZ.lt
          have hc2 := hbel.trans (hb2.mono (Nat.le_of_lt hA.lt))
          rw [HE.out]
          go_wp2_with (refine store16 (w.heap.size + 1) (decI l q) hZ2 rfl rfl rfl rfl ?_)
          exact ret16 (w.heap.size + 1) Tryd.results10 (hZ2.setRow _) rfl rfl ⟨rfl, below_setRow hc2 (by omega) _⟩
    · have hok : okB l 4080 = false := by simpa using hok
      have HE := Lib.hid (show VN 16 (fun _ => 0) = VN 16 (decI l q) from VN_congr fun k hk => by unfold decI; rw [hok]; rfl)
      go_wp2_with (refine store16z (w.heap.size + 1) hZ1 rfl rfl rfl rfl ?_)
      exact ret16 (w.heap.size + 1) Tryd.results10 (hZ1.setRow _) rfl rfl ⟨by rw [HE.out], below_setRow hc1 (by omega) _⟩

theorem FnExactDecodeBlock_walk (b : Nat → Int) (_hb : ∀ k, k < 16 → (Lit.int .i64 (b k)).wf = true) (q : Int) (_hq : (Lit.int .i64 q).wf = true) (w : World) (ht : HasTab w) :
    Calls Tryd.prog 4 #[.agg (VN 16 b), .int .i64 q] w fun e w' => e = .returned (.bool true) ∧ Below w.heap.size w w' := by
  have HT := Lib.hid ht
  have h0 := Blk.new w 16 22 b
  have hb0 : Below w.heap.size w (w.alloc (.cells (VN 16 b) 22)) := (Below.refl _ _).alloc (Nat.le_refl _) _
  have hs0 : w.heap.size < (w.alloc (.cells (VN 16 b) 22)).heap.size := by simp
  clear _hb _hq ht
  go_enter Tryd.func4, Tryd.ntmps4
  go_wp2_with (refine load16 w.heap.size h0 rfl rfl rfl ?_)
  refine (toIntA16_any _ _).mono ?_; rintro e w1 ⟨rfl, hb1⟩
  have h1 := h0.below hb1 hs0
  have hs1 := Nat.lt_of_lt_of_le hs0 hb1.size
  have hc1 := hb0.trans (hb1.mono (Nat.le_of_lt hs0))
  go_wp2_with fail
  refine (sDecode_any _ _ _).mono ?_; rintro e w2 ⟨rfl, hb2⟩
  have h2 := h1.below hb2 hs1
  have hs2 := Nat.lt_of_lt_of_le hs1 hb2.size
  have hc2 := hc1.trans (hb2.mono (Nat.le_of_lt hs1))
  clear h0 hb0 h1 hc1 hb1 hb2
  have hN : Blk (w2.alloc (.cells #[.int .i64 0, .int .i64 0, .int .i64 0, .int .i64 0, .int .i64 0, .int .i64 0, .int .i64 0, .int .i64 0, .int .i64 0, .int .i64 0, .int .i64 0, .int .i64 0, .int .i64 0, .int .i64 0, .int .i64 0, .int .i64 0] 22)) w2.heap.size 16 22 (fun _ => 0) := by rw [← zero16]; exact Blk.new _ _ _ _
  have hG := hN.setRow (decI b q)
  have h3 := (h2.alloc (.cells #[.int .i64 0, .int .i64 0, .int .i64 0, .int .i64 0, .int .i64 0, .int .i64 0, .int .i64 0, .int .i64 0, .int .i64 0, .int .i64 0, .int .i64 0, .int .i64 0, .int .i64 0, .int .i64 0, .int .i64 0, .int .i64 0] 22)).setRowOther w2.heap.size (VN 16 (decI b q)) (by omega)
  have hc3 := below_setRow (hc2.alloc (Nat.le_of_lt hs2) (.cells #[.int .i64 0, .int .i64 0, .int .i64 0, .int .i64 0, .int .i64 0, .int .i64 0, .int .i64 0, .int .i64 0, .int .i64 0, .int .i64 0, .int .i64 0, .int .i64 0, .int .i64 0, .int .i64 0, .int .i64 0, .int .i64 0] 22)) (Nat.le_of_lt hs2) (VN 16 (decI b q))
  go_wp2_with (first | refine store16 w2.heap.size (decI b q) hN rfl rfl rfl rfl ?_ | refine load16 w.heap.size h3 rfl rfl rfl ?_)
  have hs3 : w2.heap.size < ((w2.alloc (.cells #[.int .i64 0, .int .i64 0, .int .i64 0, .int .i64 0, .int .i64 0, .int .i64 0, .int .i64 0, .int .i64 0, .int .i64 0, .int .i64 0, .int .i64 0, .int .i64 0, .int .i64 0, .int .i64 0, .int .i64 0, .int .i64 0] 22)).setRow w2.heap.size (VN 16 (decI b q))).heap.size := by simp
  generalize (w2.alloc (.cells #[.int .i64 0, .int .i64 0, .int .i64 0, .int .i64 0, .int .i64 0, .int .i64 0, .int .i64 0, .int .i64 0, .int .i64 0, .int .i64 0, .int .i64 0, .int .i64 0, .int .i64 0, .int .i64 0, .int .i64 0, .int .i64 0] 22)).setRow w2.heap.size (VN 16 (decI b q)) = w3 at *
  refine (toIntA16_any _ _).mono ?_; rintro e w4 ⟨rfl, hb4⟩
  have hG4 := hG.below hb4 hs3
  have hs4 := Nat.lt_of_lt_of_le hs3 hb4.size
  have hc4 := hc3.trans (hb4.mono (by omega))
  clear hN hG h2 h3 hc2 hc3 hb4
  have HT4 := Lib.hid (HT.out.below hc4 HT.out.size)
  go_wp2_with fail
  refine (iDecode_any _ _ _ HT4.out).mono ?_; rintro e w5 ⟨rfl, hb5⟩
  have hG5 := hG4.below hb5 hs4
  have hs5 := Nat.lt_of_lt_of_le hs4 hb5.size
  have hc5 := hc4.trans (hb5.mono (by omega))
  clear hG4 hc4 hb5
  have hN : Blk (w5.alloc (.cells #[.int .i64 0, .int .i64 0, .int .i64 0, .int .i64 0, .int .i64 0, .int .i64 0, .int .i64 0, .int .i64 0, .int .i64 0, .int .i64 0, .int .i64 0, .int .i64 0, .int .i64 0, .int .i64 0, .int .i64 0, .int .i64 0] 22)) w5.heap.size 16 22 (fun _ => 0) := by rw [← zero16]; exact Blk.new _ _ _ _
  have hM := hN.setRow (decI b q)
  have hG6 := (hG5.alloc (.cells #[.int .i64 0, .int .i64 0, .int .i64 0, .int .i64 0, .int .i64 0, .int .i64 0, .int .i64 0, .int .i64 0, .int .i64 0, .int .i64 0, .int .i64 0, .int .i64 0, .int .i64 0, .int .i64 0, .int .i64 0, .int .i64 0] 22)).setRowOther w5.heap.size (VN 16 (decI b q)) (by omega)
  have hc6 := below_setRow (hc5.alloc (by omega) (.cells #[.int .i64 0, .int .i64 0, .int .i64 0, .int .i64 0, .int .i64 0, .int .i64 0, .int .i64 0, .int .i64 0, .int .i64 0, .int .i64 0, .int .i64 0, .int .i64 0, .int .i64 0, .int .i64 0, .int .i64 0, .int .i64 0] 22)) (show w.heap.size ≤ w5.heap.size by omega) (VN 16 (decI b q))
  go_wp2_with (first | refine store16 w5.heap.size (decI b q) hN rfl rfl rfl rfl ?_ | refine load16 w5.heap.size hM rfl rfl rfl ?_ | refine load16 w2.heap.size hG6 rfl rfl rfl ?_)
  have hs6 : w5.heap.size < ((w5.alloc (.cells #[.int .i64 0, .int .i64 0, .int .i64 0, .int .i64 0, .int .i64 0, .int .i64 0, .int .i64 0, .int .i64 0, .int .i64 0, .int .i64 0, .int .i64 0, .int .i64 0, .int .i64 0, .int .i64 0, .int .i64 0, .int .i64 0] 22)).setRow w5.heap.size (VN 16 (decI b q))).heap.size := by simp
  generalize (w5.alloc (.cells #[.int .i64 0, .int .i64 0, .int .i64 0, .int .i64 0, .int .i64 0, .int .i64 0, .int .i64 0, .int .i64 0, .int .i64 0, .int .i64 0, .int .i64 0, .int .i64 0, .int .i64 0, .int .i64 0, .int .i64 0, .int .i64 0] 22)).setRow w5.heap.size (VN 16 (decI b q)) = w6 at *
  refine (eqIntA16_yes _ _ _ (fun _ _ => rfl)).mono ?_; rintro e w7 ⟨rfl, hb7⟩
  have hc7 := hc6.trans (hb7.mono (by omega))
  go_wp2_with fail
  go_ret
  exact ⟨rfl, hc7⟩

end Go.Proofs.YtaeeafdnejdocaaDoor
