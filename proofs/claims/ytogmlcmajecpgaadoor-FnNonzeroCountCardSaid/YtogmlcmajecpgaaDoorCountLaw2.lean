/- The walks of the laws on blocks whose argument is a code to draw from. -/
import Derived.Test.YtogmlcmajecpgaaDoorDrawBlock2
import Derived.Test.YtogmlcmajecpgaaDoorCountLaws
import Derived.Test.YtogmlcmajecpgaaDoorQuant
import Derived.Test.YtogmlcmajecpgaaDoorLooseG
import Derived.Deep.Cut
import Derived.Deep.RegionHeld3
namespace Go.Proofs.YtogmlcmajecpgaaDoor
open Go.RowKit

theorem quant_small (c : Int) (h1 : -901 ≤ c) (h2 : c ≤ 901) : (quantI c 3 ≠ 0 → c ≠ 0) ∧ (quantI c 7 ≠ 0 → quantI c 3 ≠ 0) := by
  have s3 : stepOf 3 = 8 := by decide
  have s7 : stepOf 7 = 32 := by decide
  unfold quantI
  rw [if_neg (by omega), if_neg (by omega), s3, s7]
  unfold quaI absI
  omega
set_option maxRecDepth 100000 in
set_option maxHeartbeats 4000000 in
theorem FnNonzeroCount_walk (a : Option Addr) (len cap : Nat) (zs : List Int) (w : World) (h : IsRow .u8 w a len cap zs) (ht : HasTab w) :
    Calls Tryd.prog 3 #[.slice a len cap] w fun e w' => e = .returned (.bool true) ∧ Below w.heap.size w w' := by
  obtain ⟨hs, hm⟩ := h.bytes
  unfold maxLen at hm
  clear h
  by_cases hl : 1048576 < len
  · clear hs ht
    go_enter Tryd.func3, Tryd.ntmps3
    go_wp2
    go_ret
    exact ⟨rfl, Below.refl _ _⟩
  · have HS := Lib.hid hs; clear hs
    have HB := Lib.hid (Below.refl w.heap.size w)
    have HT := Lib.hid ht; clear ht
    have HTB := Lib.hid HT.out.size
    go_enter Tryd.func3, Tryd.ntmps3
    go_wp2_with fail
    refine (DrawNonzeroCount_any _ len _ _ HS.out (by omega)).mono ?_; rintro e w1 ⟨b, rfl, HWi, hw1⟩
    have zw1 : w.heap.size ≤ w1.heap.size := hw1.size
    replace HB := Lib.hid (HB.out.trans (hw1.mono (by omega)))
    replace HT := Lib.hid (HT.out.below (hw1) HT.out.size)
    clear hw1
    obtain ⟨m, hm⟩ : ∃ m, cz b 16 = m := ⟨_, rfl⟩
    have hm16 : m ≤ 16 := by rw [← hm]; exact cz_le b 16
    have HM := Lib.hid hm; clear hm
    have e0 : ((m : Int) != (m : Int)) = false := by simp
    have HN := Lib.hid (show Blk (w1.alloc (.cells #[.int .i64 0, .int .i64 0, .int .i64 0, .int .i64 0, .int .i64 0, .int .i64 0, .int .i64 0, .int .i64 0, .int .i64 0, .int .i64 0, .int .i64 0, .int .i64 0, .int .i64 0, .int .i64 0, .int .i64 0, .int .i64 0] 23)) w1.heap.size 16 23 (fun _ => 0) by rw [← zero16]; exact Blk.new _ _ _ _)
    obtain ⟨w2, hw⟩ : ∃ w2, w2 = (w1.alloc (.cells #[.int .i64 0, .int .i64 0, .int .i64 0, .int .i64 0, .int .i64 0, .int .i64 0, .int .i64 0, .int .i64 0, .int .i64 0, .int .i64 0, .int .i64 0, .int .i64 0, .int .i64 0, .int .i64 0, .int .i64 0, .int .i64 0] 23)).setRow w1.heap.size (VN 16 (b)) := ⟨_, rfl⟩
    have hV : Blk w2 w1.heap.size 16 23 (b) := by rw [hw]; exact HN.out.setRow _
    have hw2 : Below w1.heap.size w1 w2 := by rw [hw]; exact below_setRow ((Below.refl _ _).alloc (Nat.le_refl _) _) (Nat.le_refl _) _
    have zw2 : w1.heap.size < w2.heap.size := by rw [hw]; simp
    have HW := Lib.hid hw; clear hw
    replace HB := Lib.hid (HB.out.trans (hw2.mono (by omega)))
    replace HT := Lib.hid (HT.out.below (hw2) HT.out.size)
    have Vb := Lib.hid hV; clear hV hw2
    go_wp2_with (first | (refine store16 w1.heap.size _ HN.out rfl rfl rfl rfl ?_; rw [← HW.out]) | refine load16 (w1.heap.size) Vb.out rfl rfl rfl ?_)
    clear HW HN
    refine (iNonzeroCount_any _ _).mono ?_; rintro e w3 ⟨rfl, hw3⟩
    have zw3 : w2.heap.size ≤ w3.heap.size := hw3.size
    replace HB := Lib.hid (HB.out.trans (hw3.mono (by omega)))
    replace HT := Lib.hid (HT.out.below (hw3) HT.out.size)
    replace Vb := Lib.hid (Vb.out.below hw3 (by omega))
    clear hw3
    rw [HM.out]
    go_wp2_with (refine load16 (w1.heap.size) Vb.out rfl rfl rfl ?_)
    refine (sNonzeroCount_any _ _).mono ?_; rintro e w4 ⟨rfl, hw4⟩
    have zw4 : w3.heap.size ≤ w4.heap.size := hw4.size
    replace HB := Lib.hid (HB.out.trans (hw4.mono (by omega)))
    replace HT := Lib.hid (HT.out.below (hw4) HT.out.size)
    replace Vb := Lib.hid (Vb.out.below hw4 (by omega))
    clear hw4
    rw [HM.out]
    obtain ⟨w5, hw⟩ : ∃ x, x = (w4.alloc (.cells #[.int .i64 0, .int .i64 0, .int .i64 0, .int .i64 0, .int .i64 0, .int .i64 0, .int .i64 0, .int .i64 0, .int .i64 0, .int .i64 0, .int .i64 0, .int .i64 0, .int .i64 0, .int .i64 0, .int .i64 0, .int .i64 0] 23)).alloc (.cells #[.int .i64 0, .int .i64 0, .int .i64 0, .int .i64 0, .int .i64 0, .int .i64 0, .int .i64 0, .int .i64 0, .int .i64 0, .int .i64 0, .int .i64 0, .int .i64 0, .int .i64 0, .int .i64 0, .int .i64 0, .int .i64 0] 23) := ⟨_, rfl⟩
    have hVx : Blk w5 (w4.heap.size) 16 23 (fun _ => 0) := by rw [hw, ← zero16]; exact (Blk.new _ _ _ _).alloc _
    have hVy : Blk w5 (w4.heap.size + 1) 16 23 (fun _ => 0) := by rw [hw, ← zero16]; exact Blk.new' (by simp)
    have hw5 : Below w4.heap.size w4 w5 := by rw [hw]; exact ((Below.refl _ _).alloc (Nat.le_refl _) _).alloc (by simp) _
    have zw5 : w4.heap.size + 1 < w5.heap.size := by rw [hw]; simp
    have HW := Lib.hid hw; clear hw
    replace HB := Lib.hid (HB.out.trans (hw5.mono (by omega)))
    replace HT := Lib.hid (HT.out.below (hw5) HT.out.size)
    replace Vb := Lib.hid (Vb.out.below hw5 (by omega))
    have Vx := Lib.hid hVx; have Vy := Lib.hid hVy; clear hVx hVy hw5
    go_wp2_with fail
    rw [← HW.out]
    clear HW
    go_wp2_with fail
    go_loopw [7] (fun i wr => ∃ k : Nat, k ≤ 16 ∧ i = .int .i64 k ∧ Blk wr w1.heap.size 16 23 b ∧ Blk wr w4.heap.size 16 23 (fun i => if i < k then quantI (b i) 3 else 0) ∧ Blk wr (w4.heap.size + 1) 16 23 (fun i => if i < k then quantI (b i) 7 else 0) ∧ Below w.heap.size w wr ∧ Hid (HasTab wr)) (fun i _ => 16 - (intOf i).toNat)
    case atStart => exact ⟨0, by omega, rfl, Vb.out, Vx.out.congr (fun j _ => by simp), Vy.out.congr (fun j _ => by simp), HB.out, HT⟩
    case round =>
      clear Vb Vx Vy HB HT
      obtain ⟨wa, rfl⟩ : ∃ wa : World, wa = wr := ⟨_, rfl⟩
      obtain ⟨k, hk, rfl, hVb, hVx, hVy, hB, HT⟩ := hrel
      have lb := hVb.lt
      have lx := hVx.lt
      have ly := hVy.lt
      have lw := hB.size
      have lt := HT.out.size
      by_cases hlt : k < 16
      · have Vb := Lib.hid hVb; have Vx := Lib.hid hVx; have Vy := Lib.hid hVy; have HB := Lib.hid hB; clear hVb hVx hVy hB
        have c1 := Vb.out.cell k hlt
        go_wp2_with fail
        refine (iQuantize_any _ _ _ HT.out).mono ?_; rintro e w6 ⟨rfl, hw6⟩
        have zw6 : wa.heap.size ≤ w6.heap.size := hw6.size
        replace Vb := Lib.hid (Vb.out.below hw6 (by omega))
        replace Vx := Lib.hid (Vx.out.below hw6 (by omega))
        replace Vy := Lib.hid (Vy.out.below hw6 (by omega))
        replace HB := Lib.hid (HB.out.trans (hw6.mono (by omega)))
        replace HT := Lib.hid (HT.out.below (hw6) HT.out.size)
        clear hw6 c1
        have c2 := Vx.out.cell k hlt; have f2 := Vx.out.frozen k
        have c1 := Vb.out.cell k hlt
        obtain ⟨ws, hws⟩ : ∃ ws, ws = w6.setCell ⟨w4.heap.size, k, none⟩ (.int .i64 (quantI (b k) 3)) := ⟨_, rfl⟩
        have hzs : ws.heap.size = w6.heap.size := by rw [hws]; simp [World.setCell]
        replace Vb := Lib.hid (show Blk ws w1.heap.size 16 23 b by rw [hws]; exact Vb.out.other (by omega))
        replace Vy := Lib.hid (show Blk ws (w4.heap.size + 1) 16 23 (fun i => if i < k then quantI (b i) 7 else 0) by rw [hws]; exact Vy.out.other (by omega))
        replace Vx := Lib.hid (show Blk ws w4.heap.size 16 23 (fun i => if i < k + 1 then quantI (b i) 3 else 0) by rw [hws]; exact (Vx.out.set k _).congr (upto_step (b := fun _ => 0) (c := fun i => quantI (b i) 3) 16))
        replace HT := Lib.hid (show HasTab ws by rw [hws]; exact HT.out.below (B := w4.heap.size) ⟨rfl, rfl, rfl, by simp [World.setCell], fun i hi => Below.heap_setCell _ _ _ _ (by simp; omega)⟩ (by omega))
        replace HB := Lib.hid (show Below w.heap.size w ws by rw [hws]; exact HB.out.setCell (by simp; omega) _)
        clear c1
        have c1 := Vb.out.cell k hlt
        have HW := Lib.hid hws; clear hws
        go_upto_region 13 with fail
        rw [← HW.out]
        go_wp2_with fail
        refine (iQuantize_any _ _ _ HT.out).mono ?_; rintro e w7 ⟨rfl, hw7⟩
        have zw7 : ws.heap.size ≤ w7.heap.size := hw7.size
        replace Vb := Lib.hid (Vb.out.below hw7 (by omega))
        replace Vx := Lib.hid (Vx.out.below hw7 (by omega))
        replace Vy := Lib.hid (Vy.out.below hw7 (by omega))
        replace HB := Lib.hid (HB.out.trans (hw7.mono (by omega)))
        replace HT := Lib.hid (HT.out.below (hw7) HT.out.size)
        clear hw7 c1 c2 f2
        have c2 := Vy.out.cell k hlt; have f2 := Vy.out.frozen k
        go_wp2_with fail
        go_roundw
        case rel =>
          exact ⟨k + 1, by omega, by go_num, Vb.out.other (by omega), Vx.out.other (by omega), (Vy.out.set k _).congr (upto_step (b := fun _ => 0) (c := fun i => quantI (b i) 7) 16), HB.out.setCell (by simp; omega) _, Lib.hid (HT.out.below (B := w4.heap.size + 1) ⟨rfl, rfl, rfl, by simp [World.setCell], fun i hi => Below.heap_setCell _ _ _ _ (by simp; omega)⟩ (by omega))⟩
        case measure => simp [intOf]; omega
      · have Vb := Lib.hid hVb
        have Vx := Lib.hid (show Blk wa w4.heap.size 16 23 (fun i => quantI (b i) 3) from hVx.congr (fun j hj => by rw [if_pos (by omega)]))
        have Vy := Lib.hid (show Blk wa (w4.heap.size + 1) 16 23 (fun i => quantI (b i) 7) from hVy.congr (fun j hj => by rw [if_pos (by omega)]))
        have HB := Lib.hid hB; clear hVb hVx hVy hB
        clear HT lt
        obtain ⟨mx, hmx⟩ : ∃ mx, cz (fun i => quantI (b i) 3) 16 = mx := ⟨_, rfl⟩
        obtain ⟨my, hmy⟩ : ∃ my, cz (fun i => quantI (b i) 7) 16 = my := ⟨_, rfl⟩
        have l1 : (mx : Int) ≤ (m : Int) := by
          have : mx ≤ m := by rw [← hmx, ← HM.out]; exact cz_mono 16 (fun k hk h => (quant_small _ (HWi.out k hk).1 (HWi.out k hk).2).1 h)
          omega
        have l2 : (my : Int) ≤ (mx : Int) := by
          have : my ≤ mx := by rw [← hmx, ← hmy]; exact cz_mono 16 (fun k hk h => (quant_small _ (HWi.out k hk).1 (HWi.out k hk).2).2 h)
          omega
        have HMX := Lib.hid hmx; have HMY := Lib.hid hmy; clear hmx hmy
        have l3 : (0 : Int) ≤ (m : Int) := by omega
        have l4 : (m : Int) ≤ 16 := by omega
        have hz : eqB b (fun _ => 0) = ((m : Int) == 0) := by
          by_cases h : m = 0
          · rw [eqB_true (cz_null 16 (HM.out.trans h)), h]; rfl
          · rw [show ((m : Int) == 0) = false by simp; omega]
            cases e : eqB b (fun _ => 0) with
            | false => rfl
            | true => exact absurd (HM.out.symm.trans (cz_all 16 (eqB_out e))) h
        obtain ⟨z, hzz⟩ : ∃ z, ((m : Int) == 0) = z := ⟨_, rfl⟩
        rw [hzz] at hz
        have he : ∀ w, (Op.equalIn 10000 23 (.agg (VN 16 (b))) (.agg #[.int .i64 0, .int .i64 0, .int .i64 0, .int .i64 0, .int .i64 0, .int .i64 0, .int .i64 0, .int .i64 0, .int .i64 0, .int .i64 0, .int .i64 0, .int .i64 0, .int .i64 0, .int .i64 0, .int .i64 0, .int .i64 0])).run Tryd.prog w = .ok z w := fun w => by rw [run_equal16z, hz]
        have ez : (z == z) = true := by simp
        have n1 : decide ((0 : Int) ≤ (m : Int)) = true := decide_eq_true l3
        have n2 : decide ((m : Int) ≤ 16) = true := decide_eq_true l4
        have n3 : decide (my ≤ mx) = true := decide_eq_true (by omega)
        have n4 : decide (mx ≤ m) = true := decide_eq_true (by omega)
        clear hz l1 l2 l3 l4
        go_wp2_with fail
        refine wp_region_log 30 (fun _ w' => Below wa.heap.size wa w') (fun _ _ => True) [fun _ v => v = .int .i64 (m : Int), fun _ v => v = .bool true, fun _ v => v = .bool true, fun _ v => v = .int .i64 (m : Int), fun _ v => v = .bool true, fun _ v => v = .bool true, fun _ v => v = .bool true, fun _ v => v = .int .i64 (m : Int), fun _ v => v = .bool z, fun _ v => v = .agg (VN 16 (b)), fun _ v => v = .agg #[.int .i64 0, .int .i64 0, .int .i64 0, .int .i64 0, .int .i64 0, .int .i64 0, .int .i64 0, .int .i64 0, .int .i64 0, .int .i64 0, .int .i64 0, .int .i64 0, .int .i64 0, .int .i64 0, .int .i64 0, .int .i64 0], fun _ v => v = .bool z, fun _ v => v = .bool true, fun _ v => v = .bool true, fun _ v => v = .bool true, fun _ v => v = .agg (VN 16 (fun i => quantI (b i) 7)), fun _ v => v = .int .i64 (my : Int), fun _ v => v = .agg (VN 16 (fun i => quantI (b i) 3)), fun _ v => v = .int .i64 (mx : Int), fun _ v => v = .bool true, fun _ v => v = .bool true, fun _ v => v = .bool true, fun _ v => v = .agg (VN 16 (fun i => quantI (b i) 3)), fun _ v => v = .int .i64 (mx : Int), fun _ v => v = .int .i64 (m : Int), fun _ v => v = .bool true, fun _ v => v = .bool true, fun _ v => v = .bool true, fun _ v => v = .bool true, fun _ v => v = .bool true] (by kernel_rfl) (by kernel_rfl) (Below.refl _ _).drew ?_ ?_ ?_
        · intro V hV wq1 wq2 v hv hr
          simp only [List.mem_cons, List.not_mem_nil, or_false] at hV
          rcases hV with rfl | rfl | rfl | rfl | rfl | rfl | rfl | rfl | rfl | rfl | rfl | rfl | rfl | rfl | rfl | rfl | rfl | rfl | rfl | rfl | rfl | rfl | rfl | rfl | rfl | rfl | rfl | rfl | rfl | rfl <;> exact hv
        · refine ⟨?_, ?_, ?_, ?_, ?_, ?_, ?_, ?_, ?_, ?_, ?_, ?_, ?_, ?_, ?_, ?_, ?_, ?_, ?_, ?_, ?_, ?_, ?_, ?_, ?_, ?_, ?_, ?_, ?_, ?_, trivial⟩
          · intro vs k1 wq1 hk1 hS1 hd fb hb K hK
            replace hb : fb = _ := hb
            subst hb
            refine ifW_yes (by kernel_rfl) ?_
            go_simp
            exact hK.out _ _ hS1 trivial rfl
          · intro vs k1 wq1 hk1 hS1 hd fb hb K hK
            obtain ⟨d0, _⟩ := hd
            replace hb : fb = Act.put (_) (some 37) (vs 0) := hb
            have e0 : vs 0 = .int .i64 (m : Int) := d0
            rw [e0] at hb; clear e0 d0
            subst hb
            refine ifW_yes (by kernel_rfl) ?_
            go_simp
            exact hK.out _ _ hS1 trivial rfl
          · intro vs k1 wq1 hk1 hS1 hd fb hb K hK
            obtain ⟨d1, _⟩ := hd
            replace hb : fb = Act.put (_) (some 38) (vs 1) := hb
            have e1 : vs 1 = .bool true := d1
            rw [e1] at hb; clear e1 d1
            subst hb
            refine ifW_yes (by kernel_rfl) ?_
            go_simp
            exact hK.out _ _ hS1 trivial rfl
          · intro vs k1 wq1 hk1 hS1 hd fb hb K hK
            obtain ⟨d2, _⟩ := hd
            replace hb : fb = Act.put (_) (some 39) (vs 2) := hb
            have e2 : vs 2 = .bool true := d2
            rw [e2] at hb; clear e2 d2
            subst hb
            refine ifW_yes (by kernel_rfl) ?_
            go_simp
            exact hK.out _ _ hS1 trivial rfl
          · intro vs k1 wq1 hk1 hS1 hd fb hb K hK
            obtain ⟨d3, d2, _⟩ := hd
            replace hb : fb = Act.put (Act.put (_) (some 40) (vs 3)) (some 39) (vs 2) := hb
            have e3 : vs 3 = .int .i64 (m : Int) := d3
            rw [e3] at hb; clear e3 d3
            have e2 : vs 2 = .bool true := d2
            rw [e2] at hb; clear e2 d2
            subst hb
            refine ifW_yes (by kernel_rfl) ?_
            go_simp
            exact hK.out _ _ hS1 trivial rfl
          · intro vs k1 wq1 hk1 hS1 hd fb hb K hK
            obtain ⟨d2, d4, _⟩ := hd
            replace hb : fb = Act.put (Act.put (_) (some 39) (vs 2)) (some 41) (vs 4) := hb
            have e2 : vs 2 = .bool true := d2
            rw [e2] at hb; clear e2 d2
            have e4 : vs 4 = .bool true := d4
            rw [e4] at hb; clear e4 d4
            subst hb
            refine ifW_yes (by kernel_rfl) ?_
            go_simp
            exact hK.out _ _ hS1 trivial rfl
          · intro vs k1 wq1 hk1 hS1 hd fb hb K hK
            obtain ⟨d5, d2, _⟩ := hd
            replace hb : fb = Act.put (Act.put (_) (some 42) (vs 5)) (some 39) (vs 2) := hb
            have e5 : vs 5 = .bool true := d5
            rw [e5] at hb; clear e5 d5
            have e2 : vs 2 = .bool true := d2
            rw [e2] at hb; clear e2 d2
            subst hb
            refine ifW_yes (by kernel_rfl) ?_
            go_simp
            exact hK.out _ _ hS1 trivial rfl
          · intro vs k1 wq1 hk1 hS1 hd fb hb K hK
            obtain ⟨d6, _⟩ := hd
            replace hb : fb = Act.put (_) (some 43) (vs 6) := hb
            have e6 : vs 6 = .bool true := d6
            rw [e6] at hb; clear e6 d6
            subst hb
            refine ifW_yes (by kernel_rfl) ?_
            go_simp
            exact hK.out _ _ hS1 trivial rfl
          · intro vs k1 wq1 hk1 hS1 hd fb hb K hK
            obtain ⟨d7, d6, _⟩ := hd
            replace hb : fb = Act.put (Act.put (_) (some 44) (vs 7)) (some 43) (vs 6) := hb
            have e7 : vs 7 = .int .i64 (m : Int) := d7
            rw [e7] at hb; clear e7 d7
            have e6 : vs 6 = .bool true := d6
            rw [e6] at hb; clear e6 d6
            subst hb
            refine ifW_yes (by kernel_rfl) ?_
            go_simp
            exact hK.out _ _ hS1 trivial rfl
          · intro vs k1 wq1 hk1 hS1 hd fb hb K hK
            obtain ⟨d6, _⟩ := hd
            replace hb : fb = Act.put (_) (some 43) (vs 6) := hb
            have e6 : vs 6 = .bool true := d6
            rw [e6] at hb; clear e6 d6
            subst hb
            refine ifW_yes (by kernel_rfl) ?_
            refine wp_load_row _ _ rfl (w1.heap.size) rfl _ _ (0, 0) _ (Vb.out.below hS1 (by omega)) Tryd.underlying23 rfl (info16 _) ?_
            exact hK.out _ _ hS1 trivial rfl
          · intro vs k1 wq1 hk1 hS1 hd fb hb K hK
            obtain ⟨d6, _⟩ := hd
            replace hb : fb = Act.put (_) (some 43) (vs 6) := hb
            have e6 : vs 6 = .bool true := d6
            rw [e6] at hb; clear e6 d6
            subst hb
            refine ifW_yes (by kernel_rfl) ?_
            go_simp
            exact hK.out _ _ hS1 trivial rfl
          · intro vs k1 wq1 hk1 hS1 hd fb hb K hK
            obtain ⟨d9, d10, d6, _⟩ := hd
            replace hb : fb = Act.put (Act.put (Act.put (_) (some 46) (vs 9)) (some 47) (vs 10)) (some 43) (vs 6) := hb
            have e9 : vs 9 = .agg (VN 16 (b)) := d9
            rw [e9] at hb; clear e9 d9
            have e10 : vs 10 = .agg #[.int .i64 0, .int .i64 0, .int .i64 0, .int .i64 0, .int .i64 0, .int .i64 0, .int .i64 0, .int .i64 0, .int .i64 0, .int .i64 0, .int .i64 0, .int .i64 0, .int .i64 0, .int .i64 0, .int .i64 0, .int .i64 0] := d10
            rw [e10] at hb; clear e10 d10
            have e6 : vs 6 = .bool true := d6
            rw [e6] at hb; clear e6 d6
            subst hb
            refine ifW_yes (by kernel_rfl) ?_
            go_simp
            exact hK.out _ _ hS1 trivial rfl
          · intro vs k1 wq1 hk1 hS1 hd fb hb K hK
            obtain ⟨d8, d11, d6, _⟩ := hd
            replace hb : fb = Act.put (Act.put (Act.put (_) (some 45) (vs 8)) (some 48) (vs 11)) (some 43) (vs 6) := hb
            have e8 : vs 8 = .bool z := d8
            rw [e8] at hb; clear e8 d8
            have e11 : vs 11 = .bool z := d11
            rw [e11] at hb; clear e11 d11
            have e6 : vs 6 = .bool true := d6
            rw [e6] at hb; clear e6 d6
            subst hb
            refine ifW_yes (by kernel_rfl) ?_
            go_simp
            exact hK.out _ _ hS1 trivial rfl
          · intro vs k1 wq1 hk1 hS1 hd fb hb K hK
            obtain ⟨d6, d12, _⟩ := hd
            replace hb : fb = Act.put (Act.put (_) (some 43) (vs 6)) (some 49) (vs 12) := hb
            have e6 : vs 6 = .bool true := d6
            rw [e6] at hb; clear e6 d6
            have e12 : vs 12 = .bool true := d12
            rw [e12] at hb; clear e12 d12
            subst hb
            refine ifW_yes (by kernel_rfl) ?_
            go_simp
            exact hK.out _ _ hS1 trivial rfl
          · intro vs k1 wq1 hk1 hS1 hd fb hb K hK
            obtain ⟨d13, d6, _⟩ := hd
            replace hb : fb = Act.put (Act.put (_) (some 50) (vs 13)) (some 43) (vs 6) := hb
            have e13 : vs 13 = .bool true := d13
            rw [e13] at hb; clear e13 d13
            have e6 : vs 6 = .bool true := d6
            rw [e6] at hb; clear e6 d6
            subst hb
            refine ifW_yes (by kernel_rfl) ?_
            go_simp
            exact hK.out _ _ hS1 trivial rfl
          · intro vs k1 wq1 hk1 hS1 hd fb hb K hK
            obtain ⟨d14, _⟩ := hd
            replace hb : fb = Act.put (_) (some 51) (vs 14) := hb
            have e14 : vs 14 = .bool true := d14
            rw [e14] at hb; clear e14 d14
            subst hb
            refine ifW_yes (by kernel_rfl) ?_
            refine wp_load_row _ _ rfl (w4.heap.size + 1) rfl _ _ (0, 0) _ (Vy.out.below hS1 (by omega)) Tryd.underlying23 rfl (info16 _) ?_
            exact hK.out _ _ hS1 trivial rfl
          · intro vs k1 wq1 hk1 hS1 hd fb hb K hK
            obtain ⟨d15, d14, _, _⟩ := hd
            replace hb : fb = Act.put (Act.put (Act.put (_) (some 52) (vs 15)) (some 51) (vs 14)) (some 51) (vs 14) := hb
            have e15 : vs 15 = .agg (VN 16 (fun i => quantI (b i) 7)) := d15
            rw [e15] at hb; clear e15 d15
            have e14 : vs 14 = .bool true := d14
            rw [e14] at hb; clear e14 d14
            subst hb
            refine ifW_yes (by kernel_rfl) ?_
            have hz1 := hS1.size
            go_simp
            refine (iNonzeroCount_any _ _).mono ?_; rintro e wq2 ⟨rfl, hb2⟩
            rw [HMY.out]
            exact hK.out _ _ (hS1.trans (hb2.mono (by omega))) trivial rfl
          · intro vs k1 wq1 hk1 hS1 hd fb hb K hK
            obtain ⟨d14, _⟩ := hd
            replace hb : fb = Act.put (_) (some 51) (vs 14) := hb
            have e14 : vs 14 = .bool true := d14
            rw [e14] at hb; clear e14 d14
            subst hb
            refine ifW_yes (by kernel_rfl) ?_
            refine wp_load_row _ _ rfl (w4.heap.size) rfl _ _ (0, 0) _ (Vx.out.below hS1 (by omega)) Tryd.underlying23 rfl (info16 _) ?_
            exact hK.out _ _ hS1 trivial rfl
          · intro vs k1 wq1 hk1 hS1 hd fb hb K hK
            obtain ⟨d17, d16, d14, _⟩ := hd
            replace hb : fb = Act.put (Act.put (Act.put (_) (some 54) (vs 17)) (some 53) (vs 16)) (some 51) (vs 14) := hb
            have e17 : vs 17 = .agg (VN 16 (fun i => quantI (b i) 3)) := d17
            rw [e17] at hb; clear e17 d17
            have e16 : vs 16 = .int .i64 (my : Int) := d16
            rw [e16] at hb; clear e16 d16
            have e14 : vs 14 = .bool true := d14
            rw [e14] at hb; clear e14 d14
            subst hb
            refine ifW_yes (by kernel_rfl) ?_
            have hz1 := hS1.size
            go_simp
            refine (iNonzeroCount_any _ _).mono ?_; rintro e wq2 ⟨rfl, hb2⟩
            rw [HMX.out]
            exact hK.out _ _ (hS1.trans (hb2.mono (by omega))) trivial rfl
          · intro vs k1 wq1 hk1 hS1 hd fb hb K hK
            obtain ⟨d16, d18, d14, _⟩ := hd
            replace hb : fb = Act.put (Act.put (Act.put (_) (some 53) (vs 16)) (some 55) (vs 18)) (some 51) (vs 14) := hb
            have e16 : vs 16 = .int .i64 (my : Int) := d16
            rw [e16] at hb; clear e16 d16
            have e18 : vs 18 = .int .i64 (mx : Int) := d18
            rw [e18] at hb; clear e18 d18
            have e14 : vs 14 = .bool true := d14
            rw [e14] at hb; clear e14 d14
            subst hb
            refine ifW_yes (by kernel_rfl) ?_
            go_simp
            exact hK.out _ _ hS1 trivial rfl
          · intro vs k1 wq1 hk1 hS1 hd fb hb K hK
            obtain ⟨d14, d19, _⟩ := hd
            replace hb : fb = Act.put (Act.put (_) (some 51) (vs 14)) (some 56) (vs 19) := hb
            have e14 : vs 14 = .bool true := d14
            rw [e14] at hb; clear e14 d14
            have e19 : vs 19 = .bool true := d19
            rw [e19] at hb; clear e19 d19
            subst hb
            refine ifW_yes (by kernel_rfl) ?_
            go_simp
            exact hK.out _ _ hS1 trivial rfl
          · intro vs k1 wq1 hk1 hS1 hd fb hb K hK
            obtain ⟨d20, d18, _⟩ := hd
            replace hb : fb = Act.put (Act.put (_) (some 57) (vs 20)) (some 55) (vs 18) := hb
            have e20 : vs 20 = .bool true := d20
            rw [e20] at hb; clear e20 d20
            have e18 : vs 18 = .int .i64 (mx : Int) := d18
            rw [e18] at hb; clear e18 d18
            subst hb
            refine ifW_yes (by kernel_rfl) ?_
            go_simp
            exact hK.out _ _ hS1 trivial rfl
          · intro vs k1 wq1 hk1 hS1 hd fb hb K hK
            obtain ⟨d21, _⟩ := hd
            replace hb : fb = Act.put (_) (some 58) (vs 21) := hb
            have e21 : vs 21 = .bool true := d21
            rw [e21] at hb; clear e21 d21
            subst hb
            refine ifW_yes (by kernel_rfl) ?_
            refine wp_load_row _ _ rfl (w4.heap.size) rfl _ _ (0, 0) _ (Vx.out.below hS1 (by omega)) Tryd.underlying23 rfl (info16 _) ?_
            exact hK.out _ _ hS1 trivial rfl
          · intro vs k1 wq1 hk1 hS1 hd fb hb K hK
            obtain ⟨d22, d21, _, _⟩ := hd
            replace hb : fb = Act.put (Act.put (Act.put (_) (some 59) (vs 22)) (some 58) (vs 21)) (some 58) (vs 21) := hb
            have e22 : vs 22 = .agg (VN 16 (fun i => quantI (b i) 3)) := d22
            rw [e22] at hb; clear e22 d22
            have e21 : vs 21 = .bool true := d21
            rw [e21] at hb; clear e21 d21
            subst hb
            refine ifW_yes (by kernel_rfl) ?_
            have hz1 := hS1.size
            go_simp
            refine (iNonzeroCount_any _ _).mono ?_; rintro e wq2 ⟨rfl, hb2⟩
            rw [HMX.out]
            exact hK.out _ _ (hS1.trans (hb2.mono (by omega))) trivial rfl
          · intro vs k1 wq1 hk1 hS1 hd fb hb K hK
            obtain ⟨d21, _⟩ := hd
            replace hb : fb = Act.put (_) (some 58) (vs 21) := hb
            have e21 : vs 21 = .bool true := d21
            rw [e21] at hb; clear e21 d21
            subst hb
            refine ifW_yes (by kernel_rfl) ?_
            go_simp
            exact hK.out _ _ hS1 trivial rfl
          · intro vs k1 wq1 hk1 hS1 hd fb hb K hK
            obtain ⟨d23, d24, d21, _⟩ := hd
            replace hb : fb = Act.put (Act.put (Act.put (_) (some 60) (vs 23)) (some 61) (vs 24)) (some 58) (vs 21) := hb
            have e23 : vs 23 = .int .i64 (mx : Int) := d23
            rw [e23] at hb; clear e23 d23
            have e24 : vs 24 = .int .i64 (m : Int) := d24
            rw [e24] at hb; clear e24 d24
            have e21 : vs 21 = .bool true := d21
            rw [e21] at hb; clear e21 d21
            subst hb
            refine ifW_yes (by kernel_rfl) ?_
            go_simp
            exact hK.out _ _ hS1 trivial rfl
          · intro vs k1 wq1 hk1 hS1 hd fb hb K hK
            obtain ⟨d21, d25, _⟩ := hd
            replace hb : fb = Act.put (Act.put (_) (some 58) (vs 21)) (some 62) (vs 25) := hb
            have e21 : vs 21 = .bool true := d21
            rw [e21] at hb; clear e21 d21
            have e25 : vs 25 = .bool true := d25
            rw [e25] at hb; clear e25 d25
            subst hb
            refine ifW_yes (by kernel_rfl) ?_
            go_simp
            exact hK.out _ _ hS1 trivial rfl
          · intro vs k1 wq1 hk1 hS1 hd fb hb K hK
            obtain ⟨d26, d23, _⟩ := hd
            replace hb : fb = Act.put (Act.put (_) (some 63) (vs 26)) (some 60) (vs 23) := hb
            have e26 : vs 26 = .bool true := d26
            rw [e26] at hb; clear e26 d26
            have e23 : vs 23 = .int .i64 (mx : Int) := d23
            rw [e23] at hb; clear e23 d23
            subst hb
            refine ifW_yes (by kernel_rfl) ?_
            go_simp
            exact hK.out _ _ hS1 trivial rfl
          · intro vs k1 wq1 hk1 hS1 hd fb hb K hK
            obtain ⟨d27, _, _⟩ := hd
            replace hb : fb = Act.put (Act.put (_) (some 64) (vs 27)) (some 64) (vs 27) := hb
            have e27 : vs 27 = .bool true := d27
            rw [e27] at hb; clear e27 d27
            subst hb
            refine ifW_yes (by kernel_rfl) ?_
            have hz1 := hS1.size
            go_simp
            refine (alive_any _).mono ?_; rintro e wq2 ⟨rfl, hb2⟩
            exact hK.out _ _ (hS1.trans (hb2.mono (by omega))) trivial rfl
          · intro vs k1 wq1 hk1 hS1 hd fb hb K hK
            obtain ⟨d27, d28, _⟩ := hd
            replace hb : fb = Act.put (Act.put (_) (some 64) (vs 27)) (some 65) (vs 28) := hb
            have e27 : vs 27 = .bool true := d27
            rw [e27] at hb; clear e27 d27
            have e28 : vs 28 = .bool true := d28
            rw [e28] at hb; clear e28 d28
            subst hb
            refine ifW_yes (by kernel_rfl) ?_
            go_simp
            exact hK.out _ _ hS1 trivial rfl
        · intro vs w8 hw8 hd fb hb
          have zw8 : wa.heap.size ≤ w8.heap.size := hw8.size
          replace Vb := Lib.hid (Vb.out.below hw8 (by omega))
          replace Vx := Lib.hid (Vx.out.below hw8 (by omega))
          replace Vy := Lib.hid (Vy.out.below hw8 (by omega))
          replace HB := Lib.hid (HB.out.trans (hw8.mono (by omega)))
          obtain ⟨d0, d1, d2, d3, d4, d5, d6, d7, d8, d9, d10, d11, d12, d13, d14, d15, d16, d17, d18, d19, d20, d21, d22, d23, d24, d25, d26, d27, d28, d29, _⟩ := hd
          replace hb : fb = Act.put (Act.put (Act.put (Act.put (Act.put (Act.put (Act.put (Act.put (Act.put (Act.put (Act.put (Act.put (Act.put (Act.put (Act.put (Act.put (Act.put (Act.put (Act.put (Act.put (Act.put (Act.put (Act.put (Act.put (Act.put (Act.put (Act.put (Act.put (Act.put (Act.put (_) (some 37) (vs 0)) (some 38) (vs 1)) (some 39) (vs 2)) (some 40) (vs 3)) (some 41) (vs 4)) (some 42) (vs 5)) (some 43) (vs 6)) (some 44) (vs 7)) (some 45) (vs 8)) (some 46) (vs 9)) (some 47) (vs 10)) (some 48) (vs 11)) (some 49) (vs 12)) (some 50) (vs 13)) (some 51) (vs 14)) (some 52) (vs 15)) (some 53) (vs 16)) (some 54) (vs 17)) (some 55) (vs 18)) (some 56) (vs 19)) (some 57) (vs 20)) (some 58) (vs 21)) (some 59) (vs 22)) (some 60) (vs 23)) (some 61) (vs 24)) (some 62) (vs 25)) (some 63) (vs 26)) (some 64) (vs 27)) (some 65) (vs 28)) (some 66) (vs 29) := hb
          have e0 : vs 0 = .int .i64 (m : Int) := d0
          rw [e0] at hb; clear e0 d0
          have e1 : vs 1 = .bool true := d1
          rw [e1] at hb; clear e1 d1
          have e2 : vs 2 = .bool true := d2
          rw [e2] at hb; clear e2 d2
          have e3 : vs 3 = .int .i64 (m : Int) := d3
          rw [e3] at hb; clear e3 d3
          have e4 : vs 4 = .bool true := d4
          rw [e4] at hb; clear e4 d4
          have e5 : vs 5 = .bool true := d5
          rw [e5] at hb; clear e5 d5
          have e6 : vs 6 = .bool true := d6
          rw [e6] at hb; clear e6 d6
          have e7 : vs 7 = .int .i64 (m : Int) := d7
          rw [e7] at hb; clear e7 d7
          have e8 : vs 8 = .bool z := d8
          rw [e8] at hb; clear e8 d8
          have e9 : vs 9 = .agg (VN 16 (b)) := d9
          rw [e9] at hb; clear e9 d9
          have e10 : vs 10 = .agg #[.int .i64 0, .int .i64 0, .int .i64 0, .int .i64 0, .int .i64 0, .int .i64 0, .int .i64 0, .int .i64 0, .int .i64 0, .int .i64 0, .int .i64 0, .int .i64 0, .int .i64 0, .int .i64 0, .int .i64 0, .int .i64 0] := d10
          rw [e10] at hb; clear e10 d10
          have e11 : vs 11 = .bool z := d11
          rw [e11] at hb; clear e11 d11
          have e12 : vs 12 = .bool true := d12
          rw [e12] at hb; clear e12 d12
          have e13 : vs 13 = .bool true := d13
          rw [e13] at hb; clear e13 d13
          have e14 : vs 14 = .bool true := d14
          rw [e14] at hb; clear e14 d14
          have e15 : vs 15 = .agg (VN 16 (fun i => quantI (b i) 7)) := d15
          rw [e15] at hb; clear e15 d15
          have e16 : vs 16 = .int .i64 (my : Int) := d16
          rw [e16] at hb; clear e16 d16
          have e17 : vs 17 = .agg (VN 16 (fun i => quantI (b i) 3)) := d17
          rw [e17] at hb; clear e17 d17
          have e18 : vs 18 = .int .i64 (mx : Int) := d18
          rw [e18] at hb; clear e18 d18
          have e19 : vs 19 = .bool true := d19
          rw [e19] at hb; clear e19 d19
          have e20 : vs 20 = .bool true := d20
          rw [e20] at hb; clear e20 d20
          have e21 : vs 21 = .bool true := d21
          rw [e21] at hb; clear e21 d21
          have e22 : vs 22 = .agg (VN 16 (fun i => quantI (b i) 3)) := d22
          rw [e22] at hb; clear e22 d22
          have e23 : vs 23 = .int .i64 (mx : Int) := d23
          rw [e23] at hb; clear e23 d23
          have e24 : vs 24 = .int .i64 (m : Int) := d24
          rw [e24] at hb; clear e24 d24
          have e25 : vs 25 = .bool true := d25
          rw [e25] at hb; clear e25 d25
          have e26 : vs 26 = .bool true := d26
          rw [e26] at hb; clear e26 d26
          have e27 : vs 27 = .bool true := d27
          rw [e27] at hb; clear e27 d27
          have e28 : vs 28 = .bool true := d28
          rw [e28] at hb; clear e28 d28
          have e29 : vs 29 = .bool true := d29
          rw [e29] at hb; clear e29 d29
          subst hb
          simp only [List.drop_succ_cons, List.drop_zero, Act.put, List.setIfInBounds_toArray, List.set_cons_succ, List.set_cons_zero]
          clear hw8
          go_wp2_with fail
          go_ret
          exact ⟨rfl, HB.out⟩

end Go.Proofs.YtogmlcmajecpgaaDoor
