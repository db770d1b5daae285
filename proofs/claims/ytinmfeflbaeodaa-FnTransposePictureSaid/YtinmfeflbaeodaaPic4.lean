/- Contract of Transpose of the reference. -/
import Derived.Test.YtinmfeflbaeodaaPic3
import Derived.Test.YtinmfeflbaeodaaLoose
namespace Go.Proofs.Ytinmfeflbaeodaa
open Go.RowKit

/-- The transpose grows row by row. -/
theorem trF_next (W H k j : Nat) (hj : j < H) (b : Nat → Int) : trF (W : Int) (H : Int) b (k * H + j) = b (j * W + k) := by
  unfold trF
  rw [Int.toNat_natCast, Int.toNat_natCast, tr_at W H k j hj]
set_option maxRecDepth 100000 in
set_option maxHeartbeats 2000000 in
theorem sTranspose_any (pw ph : Int) (v : Value) (n : Nat) (b : Nat → Int) (w : World) (h : Sr .i64 w.heap.size w v n b) (hn : n ≤ 1000000000000) :
    Calls Try.prog 14 #[.agg #[.int .i64 pw, .int .i64 ph, v]] w (GaveP (trS pw ph n b ph) (trS pw ph n b pw) (trN pw ph n b) (trF pw ph b) w) := by
  obtain ⟨w0, hw0⟩ : ∃ w0, w0 = (w.alloc (.cells #[.int .i64 pw, .int .i64 ph, v] 25)).alloc (.cells #[.int .i64 0, .int .i64 0, .slice none 0 0] 25) := ⟨_, rfl⟩
  have hP : PicB w0 w.heap.size pw ph v := by rw [hw0]; exact (PicB.new' rfl).alloc _
  have hZ : PicB w0 (w.heap.size + 1) 0 0 (.slice none 0 0) := by rw [hw0]; exact PicB.new' (by simp)
  have hbel : Below w.heap.size w w0 := by rw [hw0]; exact ((Below.refl _ _).alloc (Nat.le_refl _) _).alloc (by simp) _
  have HS := Lib.hid ((h.below hbel (Nat.le_refl _)).mono hbel.size)
  have HW := Lib.hid hw0
  obtain ⟨a, cap, rfl, hcap, hc⟩ := h
  have HC := Lib.hid hc
  clear hw0 hc
  go_enter Try.func14, Try.ntmps14
  go_wp2_with fail
  rw [← HW.out]
  clear HW
  go_wp2_with (refine loadP w.heap.size hP rfl rfl rfl ?_)
  refine (sPictureValid_any _ _ _ n b _ HS.out hn).mono ?_; rintro e w1 ⟨rfl, hb1⟩
  have hP1 := hP.below hb1 hP.lt
  have hZ1 := hZ.below hb1 hZ.lt
  have hbel1 := hbel.trans (hb1.mono hbel.size)
  have hs1 := hZ1.lt
  clear hP hZ HS hbel hb1
  by_cases hp : pvB pw ph n b = true
  · obtain ⟨s1, s2, hnn, _⟩ := pvB_out hp
    have sw := sideB_out s1
    have sh := sideB_out s2
    have E1 := Lib.hid (show trS pw ph n b ph = ph by unfold trS; rw [if_pos hp])
    have E2 := Lib.hid (show trS pw ph n b pw = pw by unfold trS; rw [if_pos hp])
    have E3 := Lib.hid (show trN pw ph n b = n by unfold trN; rw [if_pos hp])
    have HP := Lib.hid hp
    obtain ⟨W, rfl⟩ := Int.eq_ofNat_of_zero_le (a := pw) (by omega)
    obtain ⟨H, rfl⟩ := Int.eq_ofNat_of_zero_le (a := ph) (by omega)
    have hnW : n = W * H := by have := hnn; rw [← Int.natCast_mul] at this; exact Int.ofNat.inj this
    obtain ⟨g, off, rfl, hg, hcell⟩ := HC.out (by have := side_mul _ _ s1 s2; omega)
    have HX := Lib.hid hcell
    have hn2 : n ≤ 1024 := by have := side_mul _ _ s1 s2; omega
    have HNW := Lib.hid hnW
    clear hcell HC hnn s1 s2 hnW
    have c0 := hP1.c0
    have c1 := hP1.c1
    obtain ⟨q, hq⟩ : ∃ q, w1.heap.size = q := ⟨_, rfl⟩
    obtain ⟨w3, hw3⟩ : ∃ w3, w3 = (w1.alloc (.cells #[.int .i64 0, .int .i64 0, .slice none 0 0] 25)).setRow w1.heap.size #[.int .i64 (H : Int), .int .i64 (W : Int), .slice none 0 0] := ⟨_, rfl⟩
    have HNw := Lib.hid (show PicB (w1.alloc (.cells #[.int .i64 0, .int .i64 0, .slice none 0 0] 25)) w1.heap.size 0 0 (.slice none 0 0) from PicB.new' rfl)
    have hO : PicB w3 q (H : Int) (W : Int) (.slice none 0 0) := by rw [hw3, ← hq]; exact HNw.out.setRow _ _ _
    have hb3 : Below w1.heap.size w1 w3 := by rw [hw3]; exact below_setRow ((Below.refl _ _).alloc (Nat.le_refl _) _) (Nat.le_refl _) _
    have hP3 := hP1.below hb3 hP1.lt
    have hZ3 := hZ1.below hb3 hs1
    have hbel3 := hbel1.trans (hb3.mono hbel1.size)
    have hqs : w.heap.size + 1 < q := by omega
    have HQ := Lib.hid hq
    have HW := Lib.hid hw3
    clear hw3 hb3 hq
    go_wp2_with (refine storeP w1.heap.size HNw.out rfl rfl rfl rfl rfl ?_; rw [← HW.out, HQ.out])
    clear HW HNw hP1 hZ1 hbel1 c0 c1 HQ hs1
    go_loopw [4] (fun i wr => ∃ (k : Nat) (u : Value), k ≤ W ∧ i = .int .i64 k ∧ PicB wr w.heap.size (W : Int) (H : Int) (.slice (some ⟨g, off, none⟩) n cap) ∧ PicB wr (w.heap.size + 1) 0 0 (.slice none 0 0) ∧ PicB wr q (H : Int) (W : Int) u ∧ OwnK .i64 3 (q + 1) wr u (k * H) (trF W H b) ∧ Below w.heap.size w wr) (fun i _ => W - (intOf i).toNat)
    case atStart => exact ⟨0, _, by omega, rfl, hP3, hZ3, hO, by rw [Nat.zero_mul]; exact OwnK.nil _ _ _ _ _, hbel3⟩
    case round =>
      clear hP3 hZ3 hO hbel3
      obtain ⟨k, u, hk, rfl, hP, hZ, hO, hOw, hbel⟩ := hrel
      by_cases hlt : k < W
      · have hlt' : (k : Int) < (W : Int) := by omega
        have c0 := hO.c1
        go_wp2_with fail
        clear c0
        go_loopw [5] (fun i wr => ∃ (j : Nat) (u : Value), j ≤ H ∧ i = .int .i64 j ∧ PicB wr w.heap.size (W : Int) (H : Int) (.slice (some ⟨g, off, none⟩) n cap) ∧ PicB wr (w.heap.size + 1) 0 0 (.slice none 0 0) ∧ PicB wr q (H : Int) (W : Int) u ∧ OwnK .i64 3 (q + 1) wr u (k * H + j) (trF W H b) ∧ Below w.heap.size w wr) (fun i _ => H - (intOf i).toNat)
        case atStart => exact ⟨0, _, by omega, rfl, hP, hZ, hO, hOw, hbel⟩
        case round =>
          clear hP hZ hO hOw hbel u
          obtain ⟨j, u, hj, rfl, hP, hZ, hO, hOw, hbel⟩ := hrel
          by_cases hjl : j < H
          · have hjl' : (j : Int) < (H : Int) := by omega
            have hi1 := idx_lt hlt hjl
            have hi2 := idx_lt (w := H) (h := W) hjl hlt
            have c1 := (hbel.cell (p := ⟨g, off + (j * W + k), none⟩) hg).trans (HX.out (j * W + k) (by have := HNW.out; omega))
            have qx : (j : Int) * (W : Int) = ((j * W : Nat) : Int) := by simp
            have hin : j * W + k < n := by rw [HNW.out]; exact hi1
            have hkn : k * H + j < 1024 := by have := HNW.out; have e := Nat.mul_comm H W; omega
            have b1 : 0 ≤ (j : Int) * (W : Int) := by rw [qx]; omega
            have b2 : (j : Int) * (W : Int) ≤ 1024 := by rw [qx]; omega
            have b3 : (j : Int) * (W : Int) + (k : Int) < n := by rw [qx]; omega
            have b4 : 0 ≤ (j : Int) * (W : Int) + (k : Int) := by rw [qx]; omega
            have t1 : ((j : Int) * (W : Int) + (k : Int)).toNat = j * W + k := by rw [qx, ← Int.natCast_add, Int.toNat_natCast]
            have e1 : IntKind.i64.wrap ((j : Int) * (W : Int)) = (j : Int) * (W : Int) := IntWalk.i64_in _ (by omega)
            have e2 : IntKind.i64.wrap ((j : Int) * (W : Int) + (k : Int)) = (j : Int) * (W : Int) + (k : Int) := IntWalk.i64_in _ (by omega)
            have d0 := hP.c0
            have d2 := hP.c2
            have o0 := hO.c0
            have o2 := hO.c2
            have hQs := hO.lt
            clear qx hi1 hi2
            go_wp2_with fail
            refine wp_region_lo 13 (fun _ w' => Below wr.heap.size wr w') (fun w1 w2 => Below w1.heap.size w1 w2) [(fun _ v => v = .pointer (some ⟨q, 2, none⟩)), (fun _ v => v = u), (fun _ v => v = .pointer (some ⟨w.heap.size, 2, none⟩)), (fun _ v => v = .slice (some ⟨g, off, none⟩) n cap), (fun _ v => v = .int .i64 (j : Int)), (fun _ v => v = .pointer (some ⟨w.heap.size, 0, none⟩)), (fun _ v => v = .int .i64 (W : Int)), (fun _ v => v = .int .i64 ((j : Int) * (W : Int))), (fun _ v => v = .int .i64 (k : Int)), (fun _ v => v = .int .i64 ((j : Int) * (W : Int) + (k : Int))), (fun _ v => v = .pointer (some ⟨g, off + (j * W + k), none⟩)), (fun _ v => v = .int .i64 (b (j * W + k))), (fun w' v => ∃ G, v = .slice (some ⟨G, 0, none⟩) 1 1 ∧ wr.heap.size ≤ G ∧ G < w'.heap.size ∧ w'.cell? ⟨G, 0, none⟩ = some (.int .i64 (b (j * W + k))))] (by kernel_rfl) (by kernel_rfl) (Below.refl _ _).drew ?_ ?_ ?_
            · intro V hV w1 w2 v hv hr
              simp only [List.mem_cons, List.not_mem_nil, or_false] at hV
              rcases hV with rfl | rfl | rfl | rfl | rfl | rfl | rfl | rfl | rfl | rfl | rfl | rfl | rfl
              · exact hv
              · exact hv
              · exact hv
              · exact hv
              · exact hv
              · exact hv
              · exact hv
              · exact hv
              · exact hv
              · exact hv
              · exact hv
              · exact hv
              · obtain ⟨G, e, h1, h2, h3⟩ := hv; exact ⟨G, e, h1, Nat.lt_of_lt_of_le h2 hr.size, (hr.cell (p := ⟨G, 0, none⟩) h2).trans h3⟩
            · refine ⟨?_, ?_, ?_, ?_, ?_, ?_, ?_, ?_, ?_, ?_, ?_, ?_, ?_, trivial⟩
              · intro vs k1 w1 hk1 hS1 hd fb hb K hK
                replace hb : fb = _ := hb
                subst hb
                go_simp
                exact hK.out _ _ hS1 (Below.refl _ _) rfl
              · intro vs k1 w1 hk1 hS1 hd fb hb K hK
                obtain ⟨d0, _⟩ := hd
                replace hb : fb = Act.put (_) (some 27) (vs 0) := hb
                have e0 : vs 0 = .pointer (some ⟨q, 2, none⟩) := d0
                rw [e0] at hb; clear e0 d0
                subst hb
                have hc := (hS1.cell (p := _) hO.lt).trans o2
                go_simp
                exact hK.out _ _ hS1 (Below.refl _ _) rfl
              · intro vs k1 w1 hk1 hS1 hd fb hb K hK
                replace hb : fb = _ := hb
                subst hb
                go_simp
                exact hK.out _ _ hS1 (Below.refl _ _) rfl
              · intro vs k1 w1 hk1 hS1 hd fb hb K hK
                obtain ⟨d2, _⟩ := hd
                replace hb : fb = Act.put (_) (some 29) (vs 2) := hb
                have e2 : vs 2 = .pointer (some ⟨w.heap.size, 2, none⟩) := d2
                rw [e2] at hb; clear e2 d2
                subst hb
                have hc := (hS1.cell (p := _) hP.lt).trans d2
                go_simp
                exact hK.out _ _ hS1 (Below.refl _ _) rfl
              · intro vs k1 w1 hk1 hS1 hd fb hb K hK
                replace hb : fb = _ := hb
                subst hb
                go_simp
                exact hK.out _ _ hS1 (Below.refl _ _) rfl
              · intro vs k1 w1 hk1 hS1 hd fb hb K hK
                replace hb : fb = _ := hb
                subst hb
                go_simp
                exact hK.out _ _ hS1 (Below.refl _ _) rfl
              · intro vs k1 w1 hk1 hS1 hd fb hb K hK
                obtain ⟨d5, _⟩ := hd
                replace hb : fb = Act.put (_) (some 32) (vs 5) := hb
                have e5 : vs 5 = .pointer (some ⟨w.heap.size, 0, none⟩) := d5
                rw [e5] at hb; clear e5 d5
                subst hb
                have hc := (hS1.cell (p := _) hP.lt).trans d0
                go_simp
                exact hK.out _ _ hS1 (Below.refl _ _) rfl
              · intro vs k1 w1 hk1 hS1 hd fb hb K hK
                obtain ⟨d4, d6, _⟩ := hd
                replace hb : fb = Act.put (Act.put (_) (some 31) (vs 4)) (some 33) (vs 6) := hb
                have e4 : vs 4 = .int .i64 (j : Int) := d4
                rw [e4] at hb; clear e4 d4
                have e6 : vs 6 = .int .i64 (W : Int) := d6
                rw [e6] at hb; clear e6 d6
                subst hb
                go_simp
                exact hK.out _ _ hS1 (Below.refl _ _) rfl
              · intro vs k1 w1 hk1 hS1 hd fb hb K hK
                replace hb : fb = _ := hb
                subst hb
                go_simp
                exact hK.out _ _ hS1 (Below.refl _ _) rfl
              · intro vs k1 w1 hk1 hS1 hd fb hb K hK
                obtain ⟨d7, d8, _⟩ := hd
                replace hb : fb = Act.put (Act.put (_) (some 34) (vs 7)) (some 35) (vs 8) := hb
                have e7 : vs 7 = .int .i64 ((j : Int) * (W : Int)) := d7
                rw [e7] at hb; clear e7 d7
                have e8 : vs 8 = .int .i64 (k : Int) := d8
                rw [e8] at hb; clear e8 d8
                subst hb
                go_simp
                exact hK.out _ _ hS1 (Below.refl _ _) rfl
              · intro vs k1 w1 hk1 hS1 hd fb hb K hK
                obtain ⟨d3, d9, _⟩ := hd
                replace hb : fb = Act.put (Act.put (_) (some 30) (vs 3)) (some 36) (vs 9) := hb
                have e3 : vs 3 = .slice (some ⟨g, off, none⟩) n cap := d3
                rw [e3] at hb; clear e3 d3
                have e9 : vs 9 = .int .i64 ((j : Int) * (W : Int) + (k : Int)) := d9
                rw [e9] at hb; clear e9 d9
                subst hb
                go_simp
                exact hK.out _ _ hS1 (Below.refl _ _) rfl
              · intro vs k1 w1 hk1 hS1 hd fb hb K hK
                obtain ⟨d10, _⟩ := hd
                replace hb : fb = Act.put (_) (some 37) (vs 10) := hb
                have e10 : vs 10 = .pointer (some ⟨g, off + (j * W + k), none⟩) := d10
                rw [e10] at hb; clear e10 d10
                subst hb
                have hc := (hS1.cell (p := _) (Nat.lt_of_lt_of_le hg hbel.size)).trans c1
                go_simp
                exact hK.out _ _ hS1 (Below.refl _ _) rfl
              · intro vs k1 w1 hk1 hS1 hd fb hb K hK
                obtain ⟨d11, _⟩ := hd
                replace hb : fb = Act.put (_) (some 38) (vs 11) := hb
                have e11 : vs 11 = .int .i64 (b (j * W + k)) := d11
                rw [e11] at hb; clear e11 d11
                subst hb
                go_simp
                exact hK.out _ _ (hS1.alloc hS1.size _) ((Below.refl _ _).alloc (Nat.le_refl _) _) ⟨w1.heap.size, rfl, hS1.size, by simp, new_cell' _ _ _⟩
            · intro vs w1 hS1 hd fb hb
              obtain ⟨d0, d1, d2, d3, d4, d5, d6, d7, d8, d9, d10, d11, d12, _⟩ := hd
              replace hb : fb = Act.put (Act.put (Act.put (Act.put (Act.put (Act.put (Act.put (Act.put (Act.put (Act.put (Act.put (Act.put (Act.put (_) (some 27) (vs 0)) (some 28) (vs 1)) (some 29) (vs 2)) (some 30) (vs 3)) (some 31) (vs 4)) (some 32) (vs 5)) (some 33) (vs 6)) (some 34) (vs 7)) (some 35) (vs 8)) (some 36) (vs 9)) (some 37) (vs 10)) (some 38) (vs 11)) (some 39) (vs 12) := hb
              have e0 : vs 0 = .pointer (some ⟨q, 2, none⟩) := d0
              rw [e0] at hb; clear e0 d0
              have e1 : vs 1 = u := d1
              rw [e1] at hb; clear e1 d1
              have e2 : vs 2 = .pointer (some ⟨w.heap.size, 2, none⟩) := d2
              rw [e2] at hb; clear e2 d2
              have e3 : vs 3 = .slice (some ⟨g, off, none⟩) n cap := d3
              rw [e3] at hb; clear e3 d3
              have e4 : vs 4 = .int .i64 (j : Int) := d4
              rw [e4] at hb; clear e4 d4
              have e5 : vs 5 = .pointer (some ⟨w.heap.size, 0, none⟩) := d5
              rw [e5] at hb; clear e5 d5
              have e6 : vs 6 = .int .i64 (W : Int) := d6
              rw [e6] at hb; clear e6 d6
              have e7 : vs 7 = .int .i64 ((j : Int) * (W : Int)) := d7
              rw [e7] at hb; clear e7 d7
              have e8 : vs 8 = .int .i64 (k : Int) := d8
              rw [e8] at hb; clear e8 d8
              have e9 : vs 9 = .int .i64 ((j : Int) * (W : Int) + (k : Int)) := d9
              rw [e9] at hb; clear e9 d9
              have e10 : vs 10 = .pointer (some ⟨g, off + (j * W + k), none⟩) := d10
              rw [e10] at hb; clear e10 d10
              have e11 : vs 11 = .int .i64 (b (j * W + k)) := d11
              rw [e11] at hb; clear e11 d11
              obtain ⟨G, e12, G1, G2, G3⟩ := d12
              rw [e12] at hb; clear e12
              subst hb
              simp only [List.drop_succ_cons, List.drop_zero, Act.put, List.setIfInBounds_toArray, List.set_cons_succ, List.set_cons_zero]
              have hP1 := hP.below hS1 hP.lt
              have hZ1 := hZ.below hS1 hZ.lt
              have hO1 := hO.below hS1 hO.lt
              have hOw1 := hOw.below hS1 (Nat.le_refl _)
              have hbel1 := hbel.trans (hS1.mono hbel.size)
              have hs1 := hS1.size
              clear hP hZ hO hOw hbel hS1 d0 d2 o0 o2 c1 b1 b2 b3 b4 t1 e1 e2
              refine appendInt (q + 1) _ G hOw1 G3 (by omega) (by omega) rfl rfl rfl rfl ?_
              intro v' w2 hO2 hgrow hat
              have hu1 : u.ownBlock ≠ some q := (fun e => by have := (hOw1.lt _ e).1; omega)
              have hQ1 := hO1.grown hgrow hu1
              have c2 := hQ1.c2
              have f2 := hQ1.fr 2
              obtain ⟨g', cap', rfl, hcap', hg1, hg2, _⟩ := hO2.form (by omega)
              have HO2 := Lib.hid hO2
              clear hO2
              go_wp2_with fail
              have hO2 := HO2.out
              have hu0 : u.ownBlock ≠ some w.heap.size := (fun e => by have := (hOw1.lt _ e).1; omega)
              have hu3 : u.ownBlock ≠ some (w.heap.size + 1) := (fun e => by have := (hOw1.lt _ e).1; omega)
              have hP2 := hP1.grown hgrow hu0
              have hZ2 := hZ1.grown hgrow hu3
              have hbel2 := grown_below hbel1 hgrow hOw1 (by omega) (by omega)
              have hO3 := hO2.congr (g := trF W H b) (fun i _ => by by_cases e : i = k * H + j; (subst e; rw [if_pos rfl, trF_next W H k j hjl b]); (rw [if_neg e]))
              clear hP1 hZ1 hO1 hOw1 hbel1 hgrow hat hO2
              go_roundw
              case rel => exact ⟨j + 1, _, by omega, by go_num, hP2.other (by omega), hZ2.other (by omega), hQ1.set2 _, hO3.setCell (by simp [Value.ownBlock]; omega) _, hbel2.setCell (by simp; omega) _⟩
              case measure => simp [intOf]; omega
          · obtain rfl : j = H := by omega
            have hjl' : ¬ (j : Int) < (j : Int) := by omega
            have o0 := hO.c0
            have hO3 := hOw.congr (g := trF W j b) (fun _ _ => rfl)
            have hOw' : OwnK .i64 3 (q + 1) wr u ((k + 1) * j) (trF W j b) := by rw [Nat.add_mul, Nat.one_mul]; exact hOw
            clear hOw
            go_wp2_with fail
            go_roundw
            case rel => exact ⟨k + 1, _, by omega, by go_num, hP, hZ, hO, hOw', hbel⟩
            case measure => simp [intOf]; omega
      · obtain rfl : k = W := by omega
        have hlt' : ¬ (k : Int) < (k : Int) := by omega
        have c0 := hO.c1
        have hu : u.oneCell' = true := by
          rcases hOw.2 with ⟨rfl, _⟩ | ⟨g, cap, cur, rfl, _⟩ <;> rfl
        have hOn : OwnK .i64 3 (q + 1) wr u n (trF k H b) := by rw [HNW.out]; exact hOw
        have hO3 := hOn.kept (w' := wr.setRow (w.heap.size + 1) #[.int .i64 (H : Int), .int .i64 (k : Int), u]) (fun g hg => heap_setRow_other _ _ _ _ (by have := (hOn.lt g hg).1; omega))
        have HF := Lib.hid (show GaveP (trS k H n b H) (trS k H n b k) (trN k H n b) (trF k H b) w (.returned (.agg #[.int .i64 (H : Int), .int .i64 (k : Int), u])) (wr.setRow (w.heap.size + 1) #[.int .i64 (H : Int), .int .i64 (k : Int), u]) by
          rw [E1.out, E2.out, E3.out]
          exact GaveP.own hO3 (by omega) (below_setRow hbel (by omega) _))
        clear hOn hO3 hOw
        go_wp2_with (first | refine loadP q hO rfl rfl rfl ?_ | refine storeP (w.heap.size + 1) hZ hu rfl rfl rfl rfl ?_)
        exact retP (w.heap.size + 1) Try.results14 (hZ.setRow _ _ _) rfl rfl HF.out
  · have hp : pvB pw ph n b = false := by simpa using hp
    have HF := Lib.hid (show GaveP (trS pw ph n b ph) (trS pw ph n b pw) (trN pw ph n b) (trF pw ph b) w (.returned (.agg #[.int .i64 0, .int .i64 0, .slice none 0 0])) (w1.setRow (w.heap.size + 1) #[.int .i64 0, .int .i64 0, .slice none 0 0]) from
      GaveP.zero (by unfold trS; rw [hp]; rfl) (by unfold trS; rw [hp]; rfl) (by unfold trN; rw [hp]; rfl) (below_setRow hbel1 (by omega) _))
    go_wp2_with (refine storeP (w.heap.size + 1) hZ1 rfl rfl rfl rfl rfl ?_)
    exact retP (w.heap.size + 1) Try.results14 (hZ1.setRow _ _ _) rfl rfl HF.out
end Go.Proofs.Ytinmfeflbaeodaa
