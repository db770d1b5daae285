/- The reference's predictions. -/
import Derived.Test.YtjogdkeoadkbnaaPredict5
namespace Go.Proofs.Ytjogdkeoadkbnaa
open Go.RowKit

theorem blk_step {w : World} {g : Nat} {ty : TypeId} {P : Nat → Int} {i : Nat} {n : Int} (h : Blk w g 16 ty (fun j => if j < i then P j else 0)) (hn : P i = n) : Blk (w.setCell ⟨g, i, none⟩ (.int .i64 n)) g 16 ty (fun j => if j < i + 1 then P j else 0) := by
  refine (h.set i n).congr ?_
  intro j hj
  by_cases h1 : j = i
  · subst h1; simp [hn]
  · by_cases h2 : j < i
    · simp [h1, h2, show j < i + 1 by omega]
    · simp [h1, h2, show ¬ j < i + 1 by omega]
set_option maxRecDepth 100000 in
set_option maxHeartbeats 2000000 in
theorem l6Predict_any (a b : Nat → Int) (c : Int) (s t : Bool) (m : Nat) (w : World) (hm : m < 5) (ha : ∀ k, k < 4 → 0 ≤ a k ∧ a k ≤ 255) (hb : ∀ k, k < 4 → 0 ≤ b k ∧ b k ≤ 255) (hc : 0 ≤ c ∧ c ≤ 255) :
    Calls Try.prog 57 #[.int .i64 (m : Int), .agg (edgV a b c s t)] w fun e w' => e = .returned (.agg (VN 16 (predI a b c s t m))) ∧ Below w.heap.size w w' := by
  have HZ := Lib.hid (show Blk (((w.alloc (.cells (edgV a b c s t) 41)).alloc (.cells #[.int .i64 0, .int .i64 0, .int .i64 0, .int .i64 0, .int .i64 0, .int .i64 0, .int .i64 0, .int .i64 0, .int .i64 0, .int .i64 0, .int .i64 0, .int .i64 0, .int .i64 0, .int .i64 0, .int .i64 0, .int .i64 0] 49)).alloc (.cells #[.int .i64 0, .int .i64 0, .int .i64 0, .int .i64 0, .int .i64 0, .int .i64 0, .int .i64 0, .int .i64 0, .int .i64 0, .int .i64 0, .int .i64 0, .int .i64 0, .int .i64 0, .int .i64 0, .int .i64 0, .int .i64 0] 49)) (w.heap.size + 1 + 1) 16 49 (fun _ => 0) by rw [← zero16]; exact Blk.new' (by simp))
  obtain ⟨w0, hw0⟩ : ∃ w0, w0 = (((w.alloc (.cells (edgV a b c s t) 41)).alloc (.cells #[.int .i64 0, .int .i64 0, .int .i64 0, .int .i64 0, .int .i64 0, .int .i64 0, .int .i64 0, .int .i64 0, .int .i64 0, .int .i64 0, .int .i64 0, .int .i64 0, .int .i64 0, .int .i64 0, .int .i64 0, .int .i64 0] 49)).alloc (.cells #[.int .i64 0, .int .i64 0, .int .i64 0, .int .i64 0, .int .i64 0, .int .i64 0, .int .i64 0, .int .i64 0, .int .i64 0, .int .i64 0, .int .i64 0, .int .i64 0, .int .i64 0, .int .i64 0, .int .i64 0, .int .i64 0] 49)).setRow (w.heap.size + 1 + 1) (VN 16 fun _ => 0) := ⟨_, rfl⟩
  have hE : EdgB w0 w.heap.size 41 (edgV a b c s t) := by rw [hw0]; exact (heap_setRow_other _ _ _ _ (by omega)).trans (((EdgB.new' rfl).alloc _).alloc _)
  have hR : Blk w0 (w.heap.size + 1) 16 49 (fun _ => 0) := by rw [hw0]; exact Blk.setRowOther (by rw [← zero16]; exact (Blk.new' (by simp)).alloc _) _ _ (by omega)
  have hB : Blk w0 (w.heap.size + 1 + 1) 16 49 (fun j => if j < 4 * 0 then predI a b c s t m j else 0) := by rw [hw0]; exact (HZ.out.setRow _).congr (fun j _ => by simp)
  have hbel : Below w.heap.size w w0 := by rw [hw0]; exact below_setRow ((((Below.refl _ _).alloc (Nat.le_refl _) _).alloc (by simp) _).alloc (by simp; omega) _) (by omega) _
  have HW := Lib.hid hw0; clear hw0
  have hm5 : (m : Int) < 5 := by omega
  have hm0 : (0 : Int) ≤ m := by omega
  go_enter Try.func57, Try.ntmps57
  go_upto_region 2 with (refine store16z (w.heap.size + 1 + 1) HZ.out rfl rfl rfl rfl ?_)
  rw [← HW.out]
  clear HW HZ
  go_wp2_with (refine loadE w.heap.size hE rfl rfl rfl ?_)
  refine (l6Mean_any a b c s t _ ha hb).mono ?_; rintro e w1 ⟨rfl, h1⟩
  replace hE := hE.below h1 hE.lt
  replace hR := hR.below h1 hR.lt
  replace hB := hB.below h1 hB.lt
  replace hbel := hbel.trans (h1.mono hbel.size)
  clear h1
  go_wp2_with fail
  go_loopw [7] (fun i wr => ∃ y : Nat, y ≤ 4 ∧ i = .int .i64 y ∧ Below w.heap.size w wr ∧ EdgB wr w.heap.size 41 (edgV a b c s t) ∧ Blk wr (w.heap.size + 1) 16 49 (fun _ => 0) ∧ Blk wr (w.heap.size + 1 + 1) 16 49 (fun j => if j < 4 * y then predI a b c s t m j else 0)) (fun i _ => 4 - (intOf i).toNat)
  case atStart => exact ⟨0, by omega, rfl, hbel, hE, hR, hB⟩
  case round =>
    clear hbel hE hR hB
    obtain ⟨y, hy, rfl, hbel, hE, hR, hB⟩ := hrel
    by_cases hlt : y < 4
    · have hy4 : (y : Int) < 4 := by omega
      have hy0 : (0 : Int) ≤ y := by omega
      go_wp2_with fail
      go_loopw [8] (fun i wr => ∃ x : Nat, x ≤ 4 ∧ i = .int .i64 x ∧ Below w.heap.size w wr ∧ EdgB wr w.heap.size 41 (edgV a b c s t) ∧ Blk wr (w.heap.size + 1) 16 49 (fun _ => 0) ∧ Blk wr (w.heap.size + 1 + 1) 16 49 (fun j => if j < 4 * y + x then predI a b c s t m j else 0)) (fun i _ => 4 - (intOf i).toNat)
      case atStart => exact ⟨0, by omega, rfl, hbel, hE, hR, hB⟩
      case round =>
        clear hbel hE hR hB
        obtain ⟨x, hx, rfl, hbel, hE, hR, hB⟩ := hrel
        by_cases hlx : x < 4
        · have hx4 : (x : Int) < 4 := by omega
          have hx0 : (0 : Int) ≤ x := by omega
          have ca := hE.cell x
          rw [edgV_getA _ _ _ _ _ _ hlx] at ca
          have cb := hE.cell (4 + y)
          rw [edgV_getL _ _ _ _ _ _ hlt] at cb
          have cc : wr.cell? ⟨w.heap.size, 8, none⟩ = some (.int .i64 c) := hE.cell 8
          have ax := ha x hlx
          have bx := hb y hlt
          obtain ⟨i, hi⟩ : ∃ i, 4 * y + x = i := ⟨_, rfl⟩
          have hi16 : i < 16 := by omega
          have e1 : IntKind.i64.wrap (4 * (y : Int)) = 4 * (y : Int) := IntWalk.i64_in _ (by omega)
          have e2 : IntKind.i64.wrap (4 * (y : Int) + (x : Int)) = (i : Int) := by rw [IntWalk.i64_in _ (by omega)]; omega
          have i16 : (i : Int) < 16 := by omega
          have i0 : (0 : Int) ≤ i := by omega
          have q1 : i % 4 = x := by omega
          have q2 : i / 4 = y := by omega
          rw [hi] at hB
          have HI := Lib.hid hi
          have HS := Lib.hid (fun (w' : World) (n : Int) (h1 : Below wr.heap.size wr w') (hn : predI a b c s t m i = n) => (show Below w.heap.size w (w'.setCell ⟨w.heap.size + 1 + 1, i, none⟩ (.int .i64 n)) ∧ EdgB (w'.setCell ⟨w.heap.size + 1 + 1, i, none⟩ (.int .i64 n)) w.heap.size 41 (edgV a b c s t) ∧ Blk (w'.setCell ⟨w.heap.size + 1 + 1, i, none⟩ (.int .i64 n)) (w.heap.size + 1) 16 49 (fun _ => 0) ∧ Blk (w'.setCell ⟨w.heap.size + 1 + 1, i, none⟩ (.int .i64 n)) (w.heap.size + 1 + 1) 16 49 (fun j => if j < 4 * y + (x + 1) then predI a b c s t m j else 0) from
            ⟨(hbel.trans (h1.mono hbel.size)).setCell (by simp; omega) _, (hE.below h1 hE.lt).other (by omega), (hR.below h1 hR.lt).other (by omega), by rw [show 4 * y + (x + 1) = i + 1 by omega]; exact blk_step (hB.below h1 hB.lt) hn⟩))
          clear hi
          have HB := Lib.hid hB
          have HE := Lib.hid hE
          clear hR hbel
          rcases (by omega : m = 0 ∨ m = 1 ∨ m = 2 ∨ m = 3 ∨ m = 4) with h | h | h | h | h
          · have z1 : ((m : Int) == 1) = false := by simp; omega
            have z2 : ((m : Int) == 2) = false := by simp; omega
            have z3 : ((m : Int) == 3) = false := by simp; omega
            have z4 : ((m : Int) == 4) = false := by simp; omega
            have b1 := hB.cell i hi16
            have b2 := hB.frozen i
            have hp : predI a b c s t m i = meanI a b s t := by subst h; rfl
            clear h hB hE
            go_wp2_with fail
            go_roundw
            case rel => exact ⟨x + 1, by omega, by go_num, HS.out _ _ (Below.refl _ _) hp⟩
            case measure => simp [intOf]; omega
          · have z1 : ((m : Int) == 1) = true := by simp; omega
            have z2 : ((m : Int) == 2) = false := by simp; omega
            have z3 : ((m : Int) == 3) = false := by simp; omega
            have z4 : ((m : Int) == 4) = false := by simp; omega
            have b1 := hB.cell i hi16
            have b2 := hB.frozen i
            have hp : predI a b c s t m i = a x := by subst h; rw [← q1]; rfl
            clear h hB hE
            go_wp2_with fail
            go_roundw
            case rel => exact ⟨x + 1, by omega, by go_num, HS.out _ _ (Below.refl _ _) hp⟩
            case measure => simp [intOf]; omega
          · have z1 : ((m : Int) == 1) = false := by simp; omega
            have z2 : ((m : Int) == 2) = true := by simp; omega
            have z3 : ((m : Int) == 3) = false := by simp; omega
            have z4 : ((m : Int) == 4) = false := by simp; omega
            have b1 := hB.cell i hi16
            have b2 := hB.frozen i
            have hp : predI a b c s t m i = b y := by subst h; rw [← q2]; rfl
            clear h hB hE
            go_wp2_with fail
            go_roundw
            case rel => exact ⟨x + 1, by omega, by go_num, HS.out _ _ (Below.refl _ _) hp⟩
            case measure => simp [intOf]; omega
          · have z1 : ((m : Int) == 1) = false := by simp; omega
            have z2 : ((m : Int) == 2) = false := by simp; omega
            have z3 : ((m : Int) == 3) = true := by simp; omega
            have z4 : ((m : Int) == 4) = false := by simp; omega
            obtain ⟨p, hpp⟩ : ∃ p, 3 + x - y = p := ⟨_, rfl⟩
            obtain ⟨q, hqq⟩ : ∃ q, 4 + x - y = q := ⟨_, rfl⟩
            obtain ⟨r, hrr⟩ : ∃ r, 5 + x - y = r := ⟨_, rfl⟩
            have a1 := brd_bd ha hb hc p (by omega)
            have a2 := brd_bd ha hb hc q (by omega)
            have a3 := brd_bd ha hb hc r (by omega)
            obtain ⟨P, hP⟩ : ∃ P, brd a b c p = P := ⟨_, rfl⟩
            obtain ⟨Q, hQ⟩ : ∃ Q, brd a b c q = Q := ⟨_, rfl⟩
            obtain ⟨R, hRR⟩ : ∃ R, brd a b c r = R := ⟨_, rfl⟩
            have hp : predI a b c s t m i = (P + 2 * Q + R + 2) / 4 := by
              rw [← hP, ← hQ, ← hRR, ← hpp, ← hqq, ← hrr, ← q1, ← q2]; subst h; rfl
            rw [hP] at a1
            rw [hQ] at a2
            rw [hRR] at a3
            have HP := Lib.hid hP; have HQ := Lib.hid hQ; have HR := Lib.hid hRR
            clear hP hQ hRR
            have p0 : (0 : Int) ≤ p := by omega
            have p8 : p ≤ 8 := by omega
            have q8 : q ≤ 8 := by omega
            have r8 : r ≤ 8 := by omega
            have p8' : (p : Int) ≤ 8 := by omega
            have r8' : (r : Int) ≤ 8 := by omega
            have r0 : (0 : Int) ≤ r := by omega
            have m3 : (if 0 < p then (p : Int) else 0) = (p : Int) := by split <;> omega
            have m8 : (if (r : Int) < 8 then (r : Int) else 8) = (r : Int) := by split <;> omega
            have f1 : IntKind.i64.wrap (4 + (x : Int)) = 4 + (x : Int) := IntWalk.i64_in _ (by omega)
            have f2 : IntKind.i64.wrap (4 + (x : Int) - (y : Int)) = (q : Int) := by rw [IntWalk.i64_in _ (by omega)]; omega
            have f3 : IntKind.i64.wrap ((q : Int) - 1) = (p : Int) := by rw [IntWalk.i64_in _ (by omega)]; omega
            have f4 : IntKind.i64.wrap ((q : Int) + 1) = (r : Int) := by rw [IntWalk.i64_in _ (by omega)]; omega
            have g1 : IntKind.i64.wrap (2 * Q) = 2 * Q := IntWalk.i64_in _ (by omega)
            have g2 : IntKind.i64.wrap (P + 2 * Q) = P + 2 * Q := IntWalk.i64_in _ (by omega)
            have g3 : IntKind.i64.wrap (P + 2 * Q + R) = P + 2 * Q + R := IntWalk.i64_in _ (by omega)
            have g4 : IntKind.i64.wrap (P + 2 * Q + R + 2) = P + 2 * Q + R + 2 := IntWalk.i64_in _ (by omega)
            have g5 : IntKind.i64.wrap ((P + 2 * Q + R + 2) / 4) = (P + 2 * Q + R + 2) / 4 := IntWalk.i64_in _ (by omega)
            have g6 : (P + 2 * Q + R + 2).tdiv 4 = (P + 2 * Q + R + 2) / 4 := Int.tdiv_eq_ediv_of_nonneg (by omega)
            clear hpp hqq hrr h ca cb cc hB hE q1 q2
            go_upto_region 17 with fail
            refine wp_region_lo 18 (fun _ w' => Below wr.heap.size wr w') (fun w1 w2 => Below w1.heap.size w1 w2) [(fun _ v => v = .agg (edgV a b c s t)), (fun _ v => v = .int .i64 (q : Int)), (fun _ v => v = .int .i64 (p : Int)), (fun _ v => v = .int .i64 (p : Int)), (fun _ v => v = .int .i64 P), (fun _ v => v = .agg (edgV a b c s t)), (fun _ v => v = .int .i64 (q : Int)), (fun _ v => v = .int .i64 Q), (fun _ v => v = .int .i64 (2 * Q)), (fun _ v => v = .int .i64 (P + 2 * Q)), (fun _ v => v = .agg (edgV a b c s t)), (fun _ v => v = .int .i64 (q : Int)), (fun _ v => v = .int .i64 (r : Int)), (fun _ v => v = .int .i64 (r : Int)), (fun _ v => v = .int .i64 R), (fun _ v => v = .int .i64 (P + 2 * Q + R)), (fun _ v => v = .int .i64 (P + 2 * Q + R + 2)), (fun _ v => v = .int .i64 ((P + 2 * Q + R + 2) / 4))] (by kernel_rfl) (by kernel_rfl) (Below.refl _ _).drew ?_ ?_ ?_
            · intro V hV w1 w2 v hv hr
              simp only [List.mem_cons, List.not_mem_nil, or_false] at hV
              rcases hV with rfl | rfl | rfl | rfl | rfl | rfl | rfl | rfl | rfl | rfl | rfl | rfl | rfl | rfl | rfl | rfl | rfl | rfl
              · exact hv
              · exact hv
              · exact hv
              · exact hv
              · exact hv
              · exact hv
              · exact hv
              · exact hv
              · exact hv
              · exact hv
              · exact hv
              · exact hv
              · exact hv
              · exact hv
              · exact hv
              · exact hv
              · exact hv
              · exact hv
            · refine ⟨?_, ?_, ?_, ?_, ?_, ?_, ?_, ?_, ?_, ?_, ?_, ?_, ?_, ?_, ?_, ?_, ?_, ?_, trivial⟩
              · intro vs k1 w1 hk1 hS1 hd fb hb K hK
                replace hb : fb = _ := hb
                subst hb
                refine wp_load_row _ _ rfl w.heap.size rfl _ _ (0, 0) _ (HE.out.below hS1 HE.out.lt) Try.underlying41 rfl (infoE _ _ _ _ _) ?_
                exact hK.out _ _ hS1 (Below.refl _ _) rfl
              · intro vs k1 w1 hk1 hS1 hd fb hb K hK
                replace hb : fb = _ := hb
                subst hb
                go_simp
                exact hK.out _ _ hS1 (Below.refl _ _) rfl
              · intro vs k1 w1 hk1 hS1 hd fb hb K hK
                obtain ⟨d1, _⟩ := hd
                replace hb : fb = Act.put (_) (some 43) (vs 1) := hb
                have e1 : vs 1 = .int .i64 (q : Int) := d1
                rw [e1] at hb; clear e1 d1
                subst hb
                go_simp
                exact hK.out _ _ hS1 (Below.refl _ _) rfl
              · intro vs k1 w1 hk1 hS1 hd fb hb K hK
                obtain ⟨d2, _⟩ := hd
                replace hb : fb = Act.put (_) (some 44) (vs 2) := hb
                have e2 : vs 2 = .int .i64 (p : Int) := d2
                rw [e2] at hb; clear e2 d2
                subst hb
                go_simp
                first | exact hK.out _ _ hS1 (Below.refl _ _) rfl | exact hK.out _ _ hS1 (Below.refl _ _) (congrArg (Value.int .i64) m3)
              · intro vs k1 w1 hk1 hS1 hd fb hb K hK
                obtain ⟨d0, d3, _⟩ := hd
                replace hb : fb = Act.put (Act.put (_) (some 42) (vs 0)) (some 45) (vs 3) := hb
                have e0 : vs 0 = .agg (edgV a b c s t) := d0
                rw [e0] at hb; clear e0 d0
                have e3 : vs 3 = .int .i64 (p : Int) := d3
                rw [e3] at hb; clear e3 d3
                subst hb
                have hz1 := hS1.size
                go_simp
                refine (l6Diagonal_any a b c s t p _ (by omega)).mono ?_; rintro e w2 ⟨rfl, hb2⟩
                rw [HP.out]
                exact hK.out _ _ (hS1.trans (hb2.mono (by omega))) (hb2.mono (by omega)) rfl
              · intro vs k1 w1 hk1 hS1 hd fb hb K hK
                replace hb : fb = _ := hb
                subst hb
                refine wp_load_row _ _ rfl w.heap.size rfl _ _ (0, 0) _ (HE.out.below hS1 HE.out.lt) Try.underlying41 rfl (infoE _ _ _ _ _) ?_
                exact hK.out _ _ hS1 (Below.refl _ _) rfl
              · intro vs k1 w1 hk1 hS1 hd fb hb K hK
                replace hb : fb = _ := hb
                subst hb
                go_simp
                exact hK.out _ _ hS1 (Below.refl _ _) rfl
              · intro vs k1 w1 hk1 hS1 hd fb hb K hK
                obtain ⟨d5, d6, d4, _⟩ := hd
                replace hb : fb = Act.put (Act.put (Act.put (_) (some 47) (vs 5)) (some 48) (vs 6)) (some 46) (vs 4) := hb
                have e5 : vs 5 = .agg (edgV a b c s t) := d5
                rw [e5] at hb; clear e5 d5
                have e6 : vs 6 = .int .i64 (q : Int) := d6
                rw [e6] at hb; clear e6 d6
                have e4 : vs 4 = .int .i64 P := d4
                rw [e4] at hb; clear e4 d4
                subst hb
                have hz1 := hS1.size
                go_simp
                refine (l6Diagonal_any a b c s t q _ (by omega)).mono ?_; rintro e w2 ⟨rfl, hb2⟩
                rw [HQ.out]
                exact hK.out _ _ (hS1.trans (hb2.mono (by omega))) (hb2.mono (by omega)) rfl
              · intro vs k1 w1 hk1 hS1 hd fb hb K hK
                obtain ⟨d7, _⟩ := hd
                replace hb : fb = Act.put (_) (some 49) (vs 7) := hb
                have e7 : vs 7 = .int .i64 Q := d7
                rw [e7] at hb; clear e7 d7
                subst hb
                go_simp
                exact hK.out _ _ hS1 (Below.refl _ _) rfl
              · intro vs k1 w1 hk1 hS1 hd fb hb K hK
                obtain ⟨d4, d8, _⟩ := hd
                replace hb : fb = Act.put (Act.put (_) (some 46) (vs 4)) (some 50) (vs 8) := hb
                have e4 : vs 4 = .int .i64 P := d4
                rw [e4] at hb; clear e4 d4
                have e8 : vs 8 = .int .i64 (2 * Q) := d8
                rw [e8] at hb; clear e8 d8
                subst hb
                go_simp
                exact hK.out _ _ hS1 (Below.refl _ _) rfl
              · intro vs k1 w1 hk1 hS1 hd fb hb K hK
                replace hb : fb = _ := hb
                subst hb
                refine wp_load_row _ _ rfl w.heap.size rfl _ _ (0, 0) _ (HE.out.below hS1 HE.out.lt) Try.underlying41 rfl (infoE _ _ _ _ _) ?_
                exact hK.out _ _ hS1 (Below.refl _ _) rfl
              · intro vs k1 w1 hk1 hS1 hd fb hb K hK
                replace hb : fb = _ := hb
                subst hb
                go_simp
                exact hK.out _ _ hS1 (Below.refl _ _) rfl
              · intro vs k1 w1 hk1 hS1 hd fb hb K hK
                obtain ⟨d11, _⟩ := hd
                replace hb : fb = Act.put (_) (some 53) (vs 11) := hb
                have e11 : vs 11 = .int .i64 (q : Int) := d11
                rw [e11] at hb; clear e11 d11
                subst hb
                go_simp
                exact hK.out _ _ hS1 (Below.refl _ _) rfl
              · intro vs k1 w1 hk1 hS1 hd fb hb K hK
                obtain ⟨d12, _⟩ := hd
                replace hb : fb = Act.put (_) (some 54) (vs 12) := hb
                have e12 : vs 12 = .int .i64 (r : Int) := d12
                rw [e12] at hb; clear e12 d12
                subst hb
                go_simp
                first | exact hK.out _ _ hS1 (Below.refl _ _) rfl | exact hK.out _ _ hS1 (Below.refl _ _) (congrArg (Value.int .i64) m8)
              · intro vs k1 w1 hk1 hS1 hd fb hb K hK
                obtain ⟨d10, d13, d7, _⟩ := hd
                replace hb : fb = Act.put (Act.put (Act.put (_) (some 52) (vs 10)) (some 55) (vs 13)) (some 49) (vs 7) := hb
                have e10 : vs 10 = .agg (edgV a b c s t) := d10
                rw [e10] at hb; clear e10 d10
                have e13 : vs 13 = .int .i64 (r : Int) := d13
                rw [e13] at hb; clear e13 d13
                have e7 : vs 7 = .int .i64 Q := d7
                rw [e7] at hb; clear e7 d7
                subst hb
                have hz1 := hS1.size
                go_simp
                refine (l6Diagonal_any a b c s t r _ (by omega)).mono ?_; rintro e w2 ⟨rfl, hb2⟩
                rw [HR.out]
                exact hK.out _ _ (hS1.trans (hb2.mono (by omega))) (hb2.mono (by omega)) rfl
              · intro vs k1 w1 hk1 hS1 hd fb hb K hK
                obtain ⟨d9, d14, _⟩ := hd
                replace hb : fb = Act.put (Act.put (_) (some 51) (vs 9)) (some 56) (vs 14) := hb
                have e9 : vs 9 = .int .i64 (P + 2 * Q) := d9
                rw [e9] at hb; clear e9 d9
                have e14 : vs 14 = .int .i64 R := d14
                rw [e14] at hb; clear e14 d14
                subst hb
                go_simp
                exact hK.out _ _ hS1 (Below.refl _ _) rfl
              · intro vs k1 w1 hk1 hS1 hd fb hb K hK
                obtain ⟨d15, _⟩ := hd
                replace hb : fb = Act.put (_) (some 57) (vs 15) := hb
                have e15 : vs 15 = .int .i64 (P + 2 * Q + R) := d15
                rw [e15] at hb; clear e15 d15
                subst hb
                go_simp
                exact hK.out _ _ hS1 (Below.refl _ _) rfl
              · intro vs k1 w1 hk1 hS1 hd fb hb K hK
                obtain ⟨d16, _⟩ := hd
                replace hb : fb = Act.put (_) (some 58) (vs 16) := hb
                have e16 : vs 16 = .int .i64 (P + 2 * Q + R + 2) := d16
                rw [e16] at hb; clear e16 d16
                subst hb
                go_simp
                exact hK.out _ _ hS1 (Below.refl _ _) rfl
            · intro vs w1 hS1 hd fb hb
              obtain ⟨d0, d1, d2, d3, d4, d5, d6, d7, d8, d9, d10, d11, d12, d13, d14, d15, d16, d17, _⟩ := hd
              replace hb : fb = Act.put (Act.put (Act.put (Act.put (Act.put (Act.put (Act.put (Act.put (Act.put (Act.put (Act.put (Act.put (Act.put (Act.put (Act.put (Act.put (Act.put (Act.put (_) (some 42) (vs 0)) (some 43) (vs 1)) (some 44) (vs 2)) (some 45) (vs 3)) (some 46) (vs 4)) (some 47) (vs 5)) (some 48) (vs 6)) (some 49) (vs 7)) (some 50) (vs 8)) (some 51) (vs 9)) (some 52) (vs 10)) (some 53) (vs 11)) (some 54) (vs 12)) (some 55) (vs 13)) (some 56) (vs 14)) (some 57) (vs 15)) (some 58) (vs 16)) (some 59) (vs 17) := hb
              have e0 : vs 0 = .agg (edgV a b c s t) := d0
              rw [e0] at hb; clear e0 d0
              have e1 : vs 1 = .int .i64 (q : Int) := d1
              rw [e1] at hb; clear e1 d1
              have e2 : vs 2 = .int .i64 (p : Int) := d2
              rw [e2] at hb; clear e2 d2
              have e3 : vs 3 = .int .i64 (p : Int) := d3
              rw [e3] at hb; clear e3 d3
              have e4 : vs 4 = .int .i64 P := d4
              rw [e4] at hb; clear e4 d4
              have e5 : vs 5 = .agg (edgV a b c s t) := d5
              rw [e5] at hb; clear e5 d5
              have e6 : vs 6 = .int .i64 (q : Int) := d6
              rw [e6] at hb; clear e6 d6
              have e7 : vs 7 = .int .i64 Q := d7
              rw [e7] at hb; clear e7 d7
              have e8 : vs 8 = .int .i64 (2 * Q) := d8
              rw [e8] at hb; clear e8 d8
              have e9 : vs 9 = .int .i64 (P + 2 * Q) := d9
              rw [e9] at hb; clear e9 d9
              have e10 : vs 10 = .agg (edgV a b c s t) := d10
              rw [e10] at hb; clear e10 d10
              have e11 : vs 11 = .int .i64 (q : Int) := d11
              rw [e11] at hb; clear e11 d11
              have e12 : vs 12 = .int .i64 (r : Int) := d12
              rw [e12] at hb; clear e12 d12
              have e13 : vs 13 = .int .i64 (r : Int) := d13
              rw [e13] at hb; clear e13 d13
              have e14 : vs 14 = .int .i64 R := d14
              rw [e14] at hb; clear e14 d14
              have e15 : vs 15 = .int .i64 (P + 2 * Q + R) := d15
              rw [e15] at hb; clear e15 d15
              have e16 : vs 16 = .int .i64 (P + 2 * Q + R + 2) := d16
              rw [e16] at hb; clear e16 d16
              have e17 : vs 17 = .int .i64 ((P + 2 * Q + R + 2) / 4) := d17
              rw [e17] at hb; clear e17 d17
              subst hb
              simp only [List.drop_succ_cons, List.drop_zero, Act.put, List.setIfInBounds_toArray, List.set_cons_succ, List.set_cons_zero]
              have b1 := (HB.out.below hS1 HB.out.lt).cell i hi16
              have b2 := (HB.out.below hS1 HB.out.lt).frozen i
              go_wp2_with fail
              go_roundw
              case rel => exact ⟨x + 1, by omega, by go_num, HS.out _ _ hS1 hp⟩
              case measure => simp [intOf]; omega
          · have z1 : ((m : Int) == 1) = false := by simp; omega
            have z2 : ((m : Int) == 2) = false := by simp; omega
            have z3 : ((m : Int) == 3) = false := by simp; omega
            have z4 : ((m : Int) == 4) = true := by simp; omega
            have hp : predI a b c s t m i = clampI (a x + b y - c) 0 255 := by rw [← q1, ← q2]; subst h; rfl
            have b1 := hB.cell i hi16
            have b2 := hB.frozen i
            clear h hB hE
            generalize a x = p at *
            generalize b y = q at *
            have f1 : IntKind.i64.wrap (p + q) = p + q := IntWalk.i64_in _ (by omega)
            have f2 : IntKind.i64.wrap (p + q - c) = p + q - c := IntWalk.i64_in _ (by omega)
            have h255 : (0 : Int) ≤ 255 := by omega
            go_upto_region 19 with fail
            go_quiet ((go_at_call 59; exact quietL (l1Clip_any _ _ _ _ (by assumption))))
            go_wp2_with fail
            go_roundw
            case rel => exact ⟨x + 1, by omega, by go_num, HS.out _ _ (below_drewN (Below.refl _ _) _) hp⟩
            case measure => simp [intOf]; omega
        · obtain hx4 : x = 4 := by omega
          have hx4' : ¬ (x : Int) < 4 := by omega
          go_wp2_with fail
          go_roundw
          case rel => exact ⟨y + 1, by omega, by go_num, hbel, hE, hR, by rw [show 4 * (y + 1) = 4 * y + x by omega]; exact hB⟩
          case measure => simp [intOf]; omega
    · have hy4 : ¬ (y : Int) < 4 := by omega
      have hB' := hB.congr (c := predI a b c s t m) (fun j hj => if_pos (by omega))
      clear hB hE
      go_wp2_with (first | (refine load16 (w.heap.size + 1 + 1) hB' rfl rfl rfl ?_) | (refine store16 (w.heap.size + 1) (predI a b c s t m) hR rfl rfl rfl rfl ?_))
      exact ret16 (w.heap.size + 1) Try.results57 (hR.setRow _) rfl rfl ⟨rfl, below_setRow hbel (by omega) _⟩
end Go.Proofs.Ytjogdkeoadkbnaa
