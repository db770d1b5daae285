/- The walk of the law on runs. -/
import Derived.Test.YtogmlcmajecpgaaRunsOf
import Derived.Test.YtogmlcmajecpgaaBlockOf
import Derived.Test.YtogmlcmajecpgaaDrawBlock2
namespace Go.Proofs.Ytogmlcmajecpgaa
open Go.RowKit

/-- What holds of the runs of a block. -/
theorem runs_law (b : Nat → Int) : (∀ k, k < (runsB b).length → lv (runsB b) k ≠ 0) ∧ (∀ k, k < (runsB b).length → zsum ((runsB b).take (k + 1)) = zsum ((runsB b).take k) + zr (runsB b) k + 1 ∧ (0 ≤ zsum ((runsB b).take k) ∧ 0 ≤ zr (runsB b) k) ∧ zsum ((runsB b).take (k + 1)) ≤ 16) ∧ (0 ≤ zsum (runsB b) ∧ zsum (runsB b) ≤ 16) ∧ boOk (runsB b) = true ∧ VN 16 (boB (runsB b)) = VN 16 b ∧ (runsB b).length = cz b 16 := by
  have hall := rTo_all (scB b) 16
  have hsum := rTo_sum (scB b) 16
  have h0 : ∀ r ∈ runsB b, 0 ≤ r.1 := fun r hr => (hall r hr).2.1
  have hs : zsum (runsB b) ≤ 16 := by unfold runsB; omega
  have hbd := zsum_bd (runsB b) h0
  have hle := hbd (runsB b).length (Nat.le_refl _)
  rw [List.take_length] at hle
  refine ⟨fun k hk => ?_, fun k hk => ⟨?_, ⟨(hbd k (by omega)).1, by rw [zr_at hk]; exact h0 _ (List.getElem_mem hk)⟩, Int.le_trans (hbd (k + 1) (by omega)).2 hs⟩, ⟨hle.1, hs⟩, (boB_runs b).1, VN_congr (boB_runs b).2, runsB_cz b⟩
  · rw [lv_at hk]
    exact (hall _ (List.getElem_mem hk)).1
  · rw [zsum_take _ k hk, zr_at hk]
set_option maxRecDepth 100000 in
set_option maxHeartbeats 4000000 in
theorem FnRunsOf_walk (a : Option Addr) (len cap : Nat) (zs : List Int) (w : World) (h : IsRow .u8 w a len cap zs) :
    Calls Try.prog 8 #[.slice a len cap] w fun e w' => e = .returned (.bool true) ∧ Below w.heap.size w w' := by
  obtain ⟨hs, hm⟩ := h.bytes
  unfold maxLen at hm
  clear h
  by_cases hl : 1048576 < len
  · clear hs
    go_enter Try.func8, Try.ntmps8
    go_wp2
    go_ret
    exact ⟨rfl, Below.refl _ _⟩
  · have HS := Lib.hid hs; clear hs
    have HB := Lib.hid (Below.refl w.heap.size w)
    go_enter Try.func8, Try.ntmps8
    go_wp2_with fail
    refine (DrawRunsOf_any _ len _ _ HS.out (by omega)).mono ?_; rintro e w1 ⟨b, rfl, _, hw1⟩
    have zw1 : w.heap.size ≤ w1.heap.size := hw1.size
    replace HB := Lib.hid (HB.out.trans (hw1.mono (by omega)))
    clear hw1
    obtain ⟨h1, h2, h3, h4, h5, h6⟩ := runs_law b
    have HI := Lib.hid (iRunsOf_any b); have HR := Lib.hid (sRunsOf_any b)
    generalize runsB b = l at *
    obtain ⟨n, hn⟩ : ∃ n, l.length = n := ⟨_, rfl⟩
    rw [hn] at h1 h2 h6
    have hn16 : n ≤ 16 := by rw [h6]; exact cz_le b 16
    have HN := Lib.hid hn; clear hn
    have H1 := Lib.hid h1; have H2 := Lib.hid h2; have H5 := Lib.hid h5; have H6 := Lib.hid h6; have H4 := Lib.hid h4; clear h1 h2 h4 h5 h6
    have HN := Lib.hid (show Blk (w1.alloc (.cells #[.int .i64 0, .int .i64 0, .int .i64 0, .int .i64 0, .int .i64 0, .int .i64 0, .int .i64 0, .int .i64 0, .int .i64 0, .int .i64 0, .int .i64 0, .int .i64 0, .int .i64 0, .int .i64 0, .int .i64 0, .int .i64 0] 29)) w1.heap.size 16 29 (fun _ => 0) by rw [← zero16]; exact Blk.new _ _ _ _)
    obtain ⟨w2, hw⟩ : ∃ w2, w2 = (w1.alloc (.cells #[.int .i64 0, .int .i64 0, .int .i64 0, .int .i64 0, .int .i64 0, .int .i64 0, .int .i64 0, .int .i64 0, .int .i64 0, .int .i64 0, .int .i64 0, .int .i64 0, .int .i64 0, .int .i64 0, .int .i64 0, .int .i64 0] 29)).setRow w1.heap.size (VN 16 (b)) := ⟨_, rfl⟩
    have hV : Blk w2 w1.heap.size 16 29 (b) := by rw [hw]; exact HN.out.setRow _
    have hw2 : Below w1.heap.size w1 w2 := by rw [hw]; exact below_setRow ((Below.refl _ _).alloc (Nat.le_refl _) _) (Nat.le_refl _) _
    have zw2 : w1.heap.size < w2.heap.size := by rw [hw]; simp
    have HW := Lib.hid hw; clear hw
    replace HB := Lib.hid (HB.out.trans (hw2.mono (by omega)))
    have Vb := Lib.hid hV; clear hV hw2
    go_wp2_with (first | (refine store16 w1.heap.size _ HN.out rfl rfl rfl rfl ?_; rw [← HW.out]) | refine load16 (w1.heap.size) Vb.out rfl rfl rfl ?_)
    clear HW HN
    refine (HI.out _).mono ?_; rintro e w3 ⟨vi, rfl, ho, hw3⟩
    have zw3 : w2.heap.size ≤ w3.heap.size := hw3.size
    replace HB := Lib.hid (HB.out.trans (hw3.mono (by omega)))
    replace Vb := Lib.hid (Vb.out.below hw3 (by omega))
    clear hw3
    have SI := Lib.hid ho.sn; clear ho
    go_wp2_with (refine load16 (w1.heap.size) Vb.out rfl rfl rfl ?_)
    refine (HR.out _).mono ?_; rintro e w4 ⟨vs, rfl, ho, hw4⟩
    have zw4 : w3.heap.size ≤ w4.heap.size := hw4.size
    replace HB := Lib.hid (HB.out.trans (hw4.mono (by omega)))
    replace Vb := Lib.hid (Vb.out.below hw4 (by omega))
    replace SI := Lib.hid (SI.out.below hw4 (by omega))
    clear hw4
    have SS := Lib.hid ho.sn; clear ho
    have SI1 := SI.out; have SS1 := SS.out
    obtain ⟨ai, ci, rfl, hci, hxi⟩ := SI1
    obtain ⟨asp, csp, rfl, hcs, hxs⟩ := SS1
    rw [HN.out] at hci hxi hcs hxs SI SS ⊢
    have HX := Lib.hid hxi; have HY := Lib.hid hxs; clear hxi hxs
    go_wp2_with fail
    go_loopw [6, 7] (fun s i wr => ∃ k j : Nat, k ≤ n ∧ i = .int .i64 k ∧ s = .int .i64 (zsum (l.take k)) ∧ wr = w4.drewN j) (fun _ i _ => n - (intOf i).toNat)
    case atStart => exact ⟨0, 0, by omega, rfl, rfl, rfl⟩
    case round =>
      obtain ⟨k, j, hk, rfl, rfl, rfl⟩ := hrel
      by_cases hlt : k < n
      · obtain ⟨gi, oi, rfl, _, _, hci⟩ := HX.out (by omega)
        obtain ⟨gs, os, rfl, _, _, hcs⟩ := HY.out (by omega)
        have c1 := (hci k hlt).1.1
        have c2 := (hci k hlt).1.2
        have d1 := (hcs k hlt).1.1
        have d2 := (hcs k hlt).1.2
        have hlv := H1.out k hlt
        obtain ⟨hz1, ⟨hz2, hzx⟩, hz3⟩ := H2.out k hlt
        obtain ⟨x, hx⟩ : ∃ x, zr l k = x := ⟨_, rfl⟩
        obtain ⟨y, hy⟩ : ∃ y, lv l k = y := ⟨_, rfl⟩
        rw [hx] at c1 d1 hz1 hzx
        rw [hy] at c2 d2 hlv
        have e0 : (y == 0) = false := by simp [hlv]
        have HZ := Lib.hid hz1
        obtain ⟨s, hs⟩ : ∃ s, zsum (l.take k) = s := ⟨_, rfl⟩
        rw [hs] at hz1 hz2 HZ ⊢
        rw [hz1] at hz3
        have hsx : s + x + 1 ≤ 16 := by omega
        have ew1 : IntKind.i64.wrap (s + x) = s + x := IntWalk.i64_in _ (by omega)
        have ew2 : IntKind.i64.wrap (s + x + 1) = s + x + 1 := IntWalk.i64_in _ (by omega)
        have hk1 : (k : Int) < n := by omega
        have hk0 : (0 : Int) ≤ k := by omega
        clear hci hcs hx hy hs hlv hz1
        go_wp2_with fail
        go_quiet (fail)
        go_wp2_with fail
        go_roundw
        case rel => exact ⟨k + 1, _, by omega, by go_num, by rw [HZ.out], rfl⟩
        case measure => simp [intOf]; omega
      · obtain rfl : k = n := by omega
        rw [List.take_of_length_le (by rw [HN.out]; exact Nat.le_refl _)]
        generalize zsum l = s at *
        skip
        obtain ⟨w5, hw⟩ : ∃ x, x = w4.drewN j := ⟨_, rfl⟩
        have hw5 : Below w4.heap.size w4 w5 := by rw [hw]; exact below_drewN (Below.refl _ _) _
        rw [← hw]
        clear hw
        have zw5 : w4.heap.size ≤ w5.heap.size := hw5.size
        replace HB := Lib.hid (HB.out.trans (hw5.mono (by omega)))
        replace Vb := Lib.hid (Vb.out.below hw5 (by omega))
        replace SI := Lib.hid (SI.out.below hw5 (by omega))
        replace SS := Lib.hid (SS.out.below hw5 (by omega))
        clear hw5
        go_wp2_with fail
        refine (iBlockOf_any _ l _ (SI.out.sr.mono (by omega)) (by rw [HN.out]; omega)).mono ?_; rintro e w6 ⟨rfl, hw6⟩
        have zw6 : w5.heap.size ≤ w6.heap.size := hw6.size
        replace HB := Lib.hid (HB.out.trans (hw6.mono (by omega)))
        replace Vb := Lib.hid (Vb.out.below hw6 (by omega))
        replace SI := Lib.hid (SI.out.below hw6 (by omega))
        replace SS := Lib.hid (SS.out.below hw6 (by omega))
        clear hw6
        rw [H4.out, H5.out]
        have he : ∀ w, (Op.equalIn 10000 29 (.agg (VN 16 (b))) (.agg (VN 16 (b)))).run Try.prog w = .ok true w := fun w => by rw [run_equal16, eqB_true (fun _ _ => rfl)]
        have HN := Lib.hid (show Blk (w6.alloc (.cells #[.int .i64 0, .int .i64 0, .int .i64 0, .int .i64 0, .int .i64 0, .int .i64 0, .int .i64 0, .int .i64 0, .int .i64 0, .int .i64 0, .int .i64 0, .int .i64 0, .int .i64 0, .int .i64 0, .int .i64 0, .int .i64 0] 29)) w6.heap.size 16 29 (fun _ => 0) by rw [← zero16]; exact Blk.new _ _ _ _)
        obtain ⟨w7, hw⟩ : ∃ w7, w7 = (w6.alloc (.cells #[.int .i64 0, .int .i64 0, .int .i64 0, .int .i64 0, .int .i64 0, .int .i64 0, .int .i64 0, .int .i64 0, .int .i64 0, .int .i64 0, .int .i64 0, .int .i64 0, .int .i64 0, .int .i64 0, .int .i64 0, .int .i64 0] 29)).setRow w6.heap.size (VN 16 (b)) := ⟨_, rfl⟩
        have hV : Blk w7 w6.heap.size 16 29 (b) := by rw [hw]; exact HN.out.setRow _
        have hw7 : Below w6.heap.size w6 w7 := by rw [hw]; exact below_setRow ((Below.refl _ _).alloc (Nat.le_refl _) _) (Nat.le_refl _) _
        have zw7 : w6.heap.size < w7.heap.size := by rw [hw]; simp
        have HW := Lib.hid hw; clear hw
        replace HB := Lib.hid (HB.out.trans (hw7.mono (by omega)))
        replace Vb := Lib.hid (Vb.out.below hw7 (by omega))
        replace SI := Lib.hid (SI.out.below hw7 (by omega))
        replace SS := Lib.hid (SS.out.below hw7 (by omega))
        have Vx := Lib.hid hV; clear hV hw7
        go_wp2_with (first | (refine store16 w6.heap.size _ HN.out rfl rfl rfl rfl ?_; rw [← HW.out]) | refine load16 (w6.heap.size) Vx.out rfl rfl rfl ?_ | refine load16 (w1.heap.size) Vb.out rfl rfl rfl ?_)
        clear HW HN
        refine (iNonzeroCount_any b _).mono ?_; rintro e w8 ⟨rfl, hw8⟩
        have zw8 : w7.heap.size ≤ w8.heap.size := hw8.size
        replace HB := Lib.hid (HB.out.trans (hw8.mono (by omega)))
        replace Vb := Lib.hid (Vb.out.below hw8 (by omega))
        replace SI := Lib.hid (SI.out.below hw8 (by omega))
        replace SS := Lib.hid (SS.out.below hw8 (by omega))
        replace Vx := Lib.hid (Vx.out.below hw8 (by omega))
        clear hw8
        rw [← H6.out]
        have en : ((k : Int) == (k : Int)) = true := by simp
        go_wp2_with fail
        go_ret
        exact ⟨rfl, HB.out⟩
end Go.Proofs.Ytogmlcmajecpgaa
