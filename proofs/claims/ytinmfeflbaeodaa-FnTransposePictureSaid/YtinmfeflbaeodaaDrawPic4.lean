/- The drawing functions of two laws on pictures. -/
import Derived.Test.YtinmfeflbaeodaaDrawPic3
import Derived.Test.YtinmfeflbaeodaaLoose
namespace Go.Proofs.Ytinmfeflbaeodaa
open Go.RowKit

/-- Three whole numbers have been drawn. -/
def NDrawn (w : World) (e : Ending) (w' : World) : Prop := ∃ x y z : Int, e = .returned (.tuple #[.int .i64 x, .int .i64 y, .int .i64 z]) ∧ Below w.heap.size w w'
theorem results_tmp3 {P : Program} {fn : Func} {p q r : Tmp} (h : fn.results = #[.tmp p, .tmp q, .tmp r]) (tmps : Array Value) (w : World) : (results fn tmps).run P w = .ok (.tuple #[tmps.getD p undef, tmps.getD q undef, tmps.getD r undef]) w := by
  simp [results, h]
set_option maxRecDepth 100000 in
set_option maxHeartbeats 2000000 in
theorem DrawNewPicture_any (v : Value) (n : Nat) (c : Nat → Int) (w : World) (h : SlB w.heap.size w v n c) (hn : n ≤ 1000000000000) :
    Calls Try.prog 18 #[v] w (NDrawn w) := by
  have HS := Lib.hid h; clear h
  go_enter Try.func18, Try.ntmps18
  go_wp2_with fail
  refine (l20Open_any v n c _ HS.out hn).mono ?_; rintro e w1 ⟨rfl, hr1, hb1, hz1⟩
  have HB := Lib.hid hb1
  have HR := Lib.hid hr1
  have HZ := Lib.hid hz1
  clear hr1 hb1 hz1 HS
  go_wp2_with fail
  refine (odd_any _ _ 0 4 _ HR.out (by omega) (by omega) (by omega)).mono ?_; rintro e w2 ⟨k1, rfl, hr, ho⟩
  have HU := Lib.hid (Only.but ho)
  replace HR := Lib.hid (show Rd w.heap.size w2 w.heap.size (0 + 1 + 0) from hr); clear hr ho
  cases k1
  · skip
    go_wp2_with fail
    refine (l20Size_any _ _ (0 + 1 + 0) _ HR.out (by omega)).mono ?_; rintro e w3 ⟨s0, rfl, _, _, hr, hu⟩
    replace HU := Lib.hid (HU.out.trans hu); replace HR := Lib.hid hr; clear hr hu
    go_wp2_with fail
    refine (l20Size_any _ _ (0 + 1 + 0 + 1) _ HR.out (by omega)).mono ?_; rintro e w4 ⟨s1, rfl, _, _, hr, hu⟩
    replace HU := Lib.hid (HU.out.trans hu); replace HR := Lib.hid hr; clear hr hu
    go_wp2_with fail
    refine (pick_any _ _ (0 + 1 + 0 + 1 + 1) 256 _ HR.out (by omega) (by omega)).mono ?_; rintro e w5 ⟨x5, rfl, _, _, hr, ho⟩
    replace HU := Lib.hid (HU.out.trans ho.but); clear hr ho
    have HF := Lib.hid (HB.out.trans (HU.out.below (Nat.le_refl _) HB.out.size))
    clear HU HB HR HZ
    go_wp2_with fail
    refine bodyPost_ret (results_tmp3 Try.results18 _ _) rfl ?_
    exact ⟨(s0 : Int), (s1 : Int), x5, rfl, HF.out⟩
  · skip
    go_wp2_with fail
    refine wp_region_lo 15 (fun k w' => Rd w.heap.size w' w.heap.size (0 + 1 + 0 + k) ∧ But w.heap.size w2 w') (fun w1 w2 => But w.heap.size w1 w2) [(fun w' v => ∃ L, v = .slice (some ⟨L, 0, none⟩) 5 5 ∧ w.heap.size < L ∧ w'.heap[L]? = some (.cells (([0, 7, 8, 40, -8] : List Int).map (Value.int .i64)).toArray 3 (0, 0))), (fun _ v => v = .pointer (some ⟨w.heap.size, 0, none⟩)), (fun _ v => ∃ k : Nat, v = .int .i64 (k : Int) ∧ k < 5), (fun w' v => ∃ (L j : Nat) (x : Int), v = .pointer (some ⟨L, j, none⟩) ∧ w.heap.size < L ∧ L < w'.heap.size ∧ w'.cell? ⟨L, j, none⟩ = some (.int .i64 x)), (fun _ v => ∃ x : Int, v = .int .i64 x), (fun _ v => v = .pointer (some ⟨w.heap.size, 0, none⟩)), (fun _ v => ∃ k : Nat, v = .int .i64 (k : Int) ∧ k < 6), (fun _ v => ∃ x : Int, v = .int .i64 x ∧ 0 ≤ x ∧ x ≤ 40), (fun w' v => ∃ L, v = .slice (some ⟨L, 0, none⟩) 3 3 ∧ w.heap.size < L ∧ w'.heap[L]? = some (.cells (([-1, 256, 7] : List Int).map (Value.int .i64)).toArray 3 (0, 0))), (fun _ v => v = .pointer (some ⟨w.heap.size, 0, none⟩)), (fun _ v => ∃ k : Nat, v = .int .i64 (k : Int) ∧ k < 3), (fun w' v => ∃ (L j : Nat) (x : Int), v = .pointer (some ⟨L, j, none⟩) ∧ w.heap.size < L ∧ L < w'.heap.size ∧ w'.cell? ⟨L, j, none⟩ = some (.int .i64 x)), (fun _ v => ∃ x : Int, v = .int .i64 x), (fun _ v => ∃ x : Int, v = .int .i64 x), (fun _ v => ∃ x : Int, v = .int .i64 x)] (by kernel_rfl) (by kernel_rfl) ⟨HR.out.kept (fun _ _ => rfl), ⟨rfl, rfl, rfl, Nat.le_refl _, fun _ _ _ => rfl⟩⟩ ?_ ?_ ?_
    · intro V hV w1 w2 v hv hr
      simp only [List.mem_cons, List.not_mem_nil, or_false] at hV
      rcases hV with rfl | rfl | rfl | rfl | rfl | rfl | rfl | rfl | rfl | rfl | rfl | rfl | rfl | rfl | rfl
      · obtain ⟨L, e, h1, h2⟩ := hv; exact ⟨L, e, h1, (hr.block L (Array.getElem?_eq_some_iff.1 h2).1 (by omega)).trans h2⟩
      · exact hv
      · exact hv
      · obtain ⟨L, j, x, e, h1, h2, h3⟩ := hv; exact ⟨L, j, x, e, h1, Nat.lt_of_lt_of_le h2 hr.size, (World.cell?_of_block (hr.block L h2 (by omega))).trans h3⟩
      · exact hv
      · exact hv
      · exact hv
      · exact hv
      · obtain ⟨L, e, h1, h2⟩ := hv; exact ⟨L, e, h1, (hr.block L (Array.getElem?_eq_some_iff.1 h2).1 (by omega)).trans h2⟩
      · exact hv
      · exact hv
      · obtain ⟨L, j, x, e, h1, h2, h3⟩ := hv; exact ⟨L, j, x, e, h1, Nat.lt_of_lt_of_le h2 hr.size, (World.cell?_of_block (hr.block L h2 (by omega))).trans h3⟩
      · exact hv
      · exact hv
      · exact hv
    · refine ⟨?_, ?_, ?_, ?_, ?_, ?_, ?_, ?_, ?_, ?_, ?_, ?_, ?_, ?_, ?_, trivial⟩
      · intro vs k1 w1 hk1 hS1 hd fb hb K hK
        replace hb : fb = _ := hb
        subst hb
        have hRl := hS1.1.lt
        go_simp
        exact hK.out _ _ ⟨(hS1.1.mono (by omega)).alloc _, hS1.2.trans ((But.refl _ _).alloc _)⟩ ((But.refl _ _).alloc _) ⟨w1.heap.size, rfl, hRl, heap_alloc_new w1 _⟩
      · intro vs k1 w1 hk1 hS1 hd fb hb K hK
        replace hb : fb = _ := hb
        subst hb
        go_simp
        exact hK.out _ _ ⟨hS1.1.mono (by omega), hS1.2⟩ (But.refl _ _) rfl
      · intro vs k1 w1 hk1 hS1 hd fb hb K hK
        obtain ⟨d1, _⟩ := hd
        replace hb : fb = Act.put (_) (some 11) (vs 1) := hb
        have e1 : vs 1 = .pointer (some ⟨w.heap.size, 0, none⟩) := d1
        rw [e1] at hb; clear e1 d1
        subst hb
        go_simp
        refine (pick_any w.heap.size w.heap.size (0 + 1 + 0 + k1) 5 _ hS1.1 (by omega) (by omega)).mono ?_; rintro e w2 ⟨x, rfl, x0, x1, hr, ho⟩
        exact hK.out _ _ ⟨hr, hS1.2.trans ho.but⟩ ho.but ⟨x.toNat, by rw [Int.toNat_of_nonneg x0], by omega⟩
      · intro vs k1 w1 hk1 hS1 hd fb hb K hK
        obtain ⟨d0, d2, _⟩ := hd
        replace hb : fb = Act.put (Act.put (_) (some 10) (vs 0)) (some 12) (vs 2) := hb
        obtain ⟨L0, e0, l0, q0⟩ := d0
        rw [e0] at hb; clear e0
        obtain ⟨n2, e2, hn2⟩ := d2
        rw [e2] at hb; clear e2
        subst hb
        have hkj1 : (n2 : Int) < 5 := by omega
        have hLl := (Array.getElem?_eq_some_iff.1 q0).1
        have hLk := lit_cell [0, 7, 8, 40, -8] q0 n2 (by simp; omega)
        go_simp
        exact hK.out _ _ ⟨hS1.1.mono (by omega), hS1.2⟩ (But.refl _ _) ⟨L0, n2, _, rfl, l0, hLl, hLk⟩
      · intro vs k1 w1 hk1 hS1 hd fb hb K hK
        obtain ⟨d3, _⟩ := hd
        replace hb : fb = Act.put (_) (some 13) (vs 3) := hb
        obtain ⟨L3, j3, x3, e3, l3, z3, q3⟩ := d3
        rw [e3] at hb; clear e3
        subst hb
        go_simp
        exact hK.out _ _ ⟨hS1.1.mono (by omega), hS1.2⟩ (But.refl _ _) ⟨_, rfl⟩
      · intro vs k1 w1 hk1 hS1 hd fb hb K hK
        replace hb : fb = _ := hb
        subst hb
        go_simp
        exact hK.out _ _ ⟨hS1.1.mono (by omega), hS1.2⟩ (But.refl _ _) rfl
      · intro vs k1 w1 hk1 hS1 hd fb hb K hK
        obtain ⟨d5, d2, _⟩ := hd
        replace hb : fb = Act.put (Act.put (_) (some 15) (vs 5)) (some 12) (vs 2) := hb
        have e5 : vs 5 = .pointer (some ⟨w.heap.size, 0, none⟩) := d5
        rw [e5] at hb; clear e5 d5
        obtain ⟨n2, e2, hn2⟩ := d2
        rw [e2] at hb; clear e2
        subst hb
        go_simp
        refine (pick_any w.heap.size w.heap.size (0 + 1 + 0 + k1) 6 _ hS1.1 (by omega) (by omega)).mono ?_; rintro e w2 ⟨x, rfl, x0, x1, hr, ho⟩
        exact hK.out _ _ ⟨hr, hS1.2.trans ho.but⟩ ho.but ⟨x.toNat, by rw [Int.toNat_of_nonneg x0], by omega⟩
      · intro vs k1 w1 hk1 hS1 hd fb hb K hK
        obtain ⟨d6, _⟩ := hd
        replace hb : fb = Act.put (_) (some 16) (vs 6) := hb
        obtain ⟨n6, e6, hn6⟩ := d6
        rw [e6] at hb; clear e6
        subst hb
        have ew : IntKind.i64.wrap (8 * (n6 : Int)) = 8 * (n6 : Int) := IntWalk.i64_in _ (by omega)
        go_simp
        exact hK.out _ _ ⟨hS1.1.mono (by omega), hS1.2⟩ (But.refl _ _) ⟨_, rfl, by omega, by omega⟩
      · intro vs k1 w1 hk1 hS1 hd fb hb K hK
        replace hb : fb = _ := hb
        subst hb
        have hRl := hS1.1.lt
        go_simp
        exact hK.out _ _ ⟨(hS1.1.mono (by omega)).alloc _, hS1.2.trans ((But.refl _ _).alloc _)⟩ ((But.refl _ _).alloc _) ⟨w1.heap.size, rfl, hRl, heap_alloc_new w1 _⟩
      · intro vs k1 w1 hk1 hS1 hd fb hb K hK
        replace hb : fb = _ := hb
        subst hb
        go_simp
        exact hK.out _ _ ⟨hS1.1.mono (by omega), hS1.2⟩ (But.refl _ _) rfl
      · intro vs k1 w1 hk1 hS1 hd fb hb K hK
        obtain ⟨d9, d6, _⟩ := hd
        replace hb : fb = Act.put (Act.put (_) (some 19) (vs 9)) (some 16) (vs 6) := hb
        have e9 : vs 9 = .pointer (some ⟨w.heap.size, 0, none⟩) := d9
        rw [e9] at hb; clear e9 d9
        obtain ⟨n6, e6, hn6⟩ := d6
        rw [e6] at hb; clear e6
        subst hb
        go_simp
        refine (pick_any w.heap.size w.heap.size (0 + 1 + 0 + k1) 3 _ hS1.1 (by omega) (by omega)).mono ?_; rintro e w2 ⟨x, rfl, x0, x1, hr, ho⟩
        exact hK.out _ _ ⟨hr, hS1.2.trans ho.but⟩ ho.but ⟨x.toNat, by rw [Int.toNat_of_nonneg x0], by omega⟩
      · intro vs k1 w1 hk1 hS1 hd fb hb K hK
        obtain ⟨d8, d10, _⟩ := hd
        replace hb : fb = Act.put (Act.put (_) (some 18) (vs 8)) (some 20) (vs 10) := hb
        obtain ⟨L8, e8, l8, q8⟩ := d8
        rw [e8] at hb; clear e8
        obtain ⟨n10, e10, hn10⟩ := d10
        rw [e10] at hb; clear e10
        subst hb
        have hkj1 : (n10 : Int) < 3 := by omega
        have hLl := (Array.getElem?_eq_some_iff.1 q8).1
        have hLk := lit_cell [-1, 256, 7] q8 n10 (by simp; omega)
        go_simp
        exact hK.out _ _ ⟨hS1.1.mono (by omega), hS1.2⟩ (But.refl _ _) ⟨L8, n10, _, rfl, l8, hLl, hLk⟩
      · intro vs k1 w1 hk1 hS1 hd fb hb K hK
        obtain ⟨d11, _⟩ := hd
        replace hb : fb = Act.put (_) (some 21) (vs 11) := hb
        obtain ⟨L11, j11, x11, e11, l11, z11, q11⟩ := d11
        rw [e11] at hb; clear e11
        subst hb
        go_simp
        exact hK.out _ _ ⟨hS1.1.mono (by omega), hS1.2⟩ (But.refl _ _) ⟨_, rfl⟩
      · intro vs k1 w1 hk1 hS1 hd fb hb K hK
        obtain ⟨d4, d10, d0, d1, d2, d3, _, _⟩ := hd
        replace hb : fb = Act.put (Act.put (Act.put (Act.put (Act.put (Act.put (Act.put (_) (some 14) (vs 4)) (some 20) (vs 10)) (some 10) (vs 0)) (some 11) (vs 1)) (some 12) (vs 2)) (some 13) (vs 3)) (some 14) (vs 4) := hb
        obtain ⟨x4, e4⟩ := d4
        rw [e4] at hb; clear e4
        obtain ⟨n10, e10, hn10⟩ := d10
        rw [e10] at hb; clear e10
        obtain ⟨L0, e0, l0, q0⟩ := d0
        rw [e0] at hb; clear e0
        have e1 : vs 1 = .pointer (some ⟨w.heap.size, 0, none⟩) := d1
        rw [e1] at hb; clear e1 d1
        obtain ⟨n2, e2, hn2⟩ := d2
        rw [e2] at hb; clear e2
        obtain ⟨L3, j3, x3, e3, l3, z3, q3⟩ := d3
        rw [e3] at hb; clear e3
        simp only [Act.put, List.setIfInBounds_toArray, List.set_cons_succ, List.set_cons_zero] at hb
        subst hb
        go_simp
        exact hK.out _ _ ⟨hS1.1.mono (by omega), hS1.2⟩ (But.refl _ _) ⟨_, rfl⟩
      · intro vs k1 w1 hk1 hS1 hd fb hb K hK
        obtain ⟨d7, d13, d0, d1, d2, d3, d4, d5, d6, _, _, _⟩ := hd
        replace hb : fb = Act.put (Act.put (Act.put (Act.put (Act.put (Act.put (Act.put (Act.put (Act.put (Act.put (Act.put (_) (some 17) (vs 7)) (some 2) (vs 13)) (some 10) (vs 0)) (some 11) (vs 1)) (some 12) (vs 2)) (some 13) (vs 3)) (some 14) (vs 4)) (some 15) (vs 5)) (some 16) (vs 6)) (some 17) (vs 7)) (some 2) (vs 13) := hb
        obtain ⟨x7, e7, lo7, hi7⟩ := d7
        rw [e7] at hb; clear e7
        obtain ⟨x13, e13⟩ := d13
        rw [e13] at hb; clear e13
        obtain ⟨L0, e0, l0, q0⟩ := d0
        rw [e0] at hb; clear e0
        have e1 : vs 1 = .pointer (some ⟨w.heap.size, 0, none⟩) := d1
        rw [e1] at hb; clear e1 d1
        obtain ⟨n2, e2, hn2⟩ := d2
        rw [e2] at hb; clear e2
        obtain ⟨L3, j3, x3, e3, l3, z3, q3⟩ := d3
        rw [e3] at hb; clear e3
        obtain ⟨x4, e4⟩ := d4
        rw [e4] at hb; clear e4
        have e5 : vs 5 = .pointer (some ⟨w.heap.size, 0, none⟩) := d5
        rw [e5] at hb; clear e5 d5
        obtain ⟨n6, e6, hn6⟩ := d6
        rw [e6] at hb; clear e6
        simp only [Act.put, List.setIfInBounds_toArray, List.set_cons_succ, List.set_cons_zero] at hb
        subst hb
        go_simp
        exact hK.out _ _ ⟨hS1.1.mono (by omega), hS1.2⟩ (But.refl _ _) ⟨_, rfl⟩
    · intro vs w1 hS1 hd fb hb
      obtain ⟨d0, d1, d2, d3, d4, d5, d6, d7, d8, d9, d10, d11, d12, d13, d14, _⟩ := hd
      replace hb : fb = Act.put (Act.put (Act.put (Act.put (Act.put (Act.put (Act.put (Act.put (Act.put (Act.put (Act.put (Act.put (Act.put (Act.put (Act.put (_) (some 10) (vs 0)) (some 11) (vs 1)) (some 12) (vs 2)) (some 13) (vs 3)) (some 14) (vs 4)) (some 15) (vs 5)) (some 16) (vs 6)) (some 17) (vs 7)) (some 18) (vs 8)) (some 19) (vs 9)) (some 20) (vs 10)) (some 21) (vs 11)) (some 22) (vs 12)) (some 2) (vs 13)) (some 3) (vs 14) := hb
      obtain ⟨L0, e0, l0, q0⟩ := d0
      rw [e0] at hb; clear e0
      have e1 : vs 1 = .pointer (some ⟨w.heap.size, 0, none⟩) := d1
      rw [e1] at hb; clear e1 d1
      obtain ⟨n2, e2, hn2⟩ := d2
      rw [e2] at hb; clear e2
      obtain ⟨L3, j3, x3, e3, l3, z3, q3⟩ := d3
      rw [e3] at hb; clear e3
      obtain ⟨x4, e4⟩ := d4
      rw [e4] at hb; clear e4
      have e5 : vs 5 = .pointer (some ⟨w.heap.size, 0, none⟩) := d5
      rw [e5] at hb; clear e5 d5
      obtain ⟨n6, e6, hn6⟩ := d6
      rw [e6] at hb; clear e6
      obtain ⟨x7, e7, lo7, hi7⟩ := d7
      rw [e7] at hb; clear e7
      obtain ⟨L8, e8, l8, q8⟩ := d8
      rw [e8] at hb; clear e8
      have e9 : vs 9 = .pointer (some ⟨w.heap.size, 0, none⟩) := d9
      rw [e9] at hb; clear e9 d9
      obtain ⟨n10, e10, hn10⟩ := d10
      rw [e10] at hb; clear e10
      obtain ⟨L11, j11, x11, e11, l11, z11, q11⟩ := d11
      rw [e11] at hb; clear e11
      obtain ⟨x12, e12⟩ := d12
      rw [e12] at hb; clear e12
      obtain ⟨x13, e13⟩ := d13
      rw [e13] at hb; clear e13
      obtain ⟨x14, e14⟩ := d14
      rw [e14] at hb; clear e14
      subst hb
      simp only [List.drop_succ_cons, List.drop_zero, Act.put, List.setIfInBounds_toArray, List.set_cons_succ, List.set_cons_zero]
      have HF := Lib.hid (HB.out.trans ((HU.out.trans hS1.2).below (Nat.le_refl _) HB.out.size))
      clear HU HB HR HZ hS1
      go_wp2_with fail
      refine bodyPost_ret (results_tmp3 Try.results18 _ _) rfl ?_
      exact ⟨x13, x14, x12, rfl, HF.out⟩
/-- A picture and a position have been drawn. -/
def SDrawn (w : World) (e : Ending) (w' : World) : Prop :=
  ∃ (pw ph : Int) (v : Value) (n : Nat) (f : Nat → Int) (x y : Int), e = .returned (.tuple #[.agg #[.int .i64 pw, .int .i64 ph, v], .int .i64 x, .int .i64 y]) ∧ Sn .i64 w.heap.size w'.heap.size w' v n f ∧ n ≤ 1024 ∧ (-4611686018427387904 ≤ x ∧ x ≤ 4611686018427387904) ∧ (-4611686018427387904 ≤ y ∧ y ≤ 4611686018427387904) ∧ Below w.heap.size w w'
theorem results_cell_tmp2 {P : Program} {fn : Func} {p u u2 : Tmp} {ty : TypeId} (h : fn.results = #[.cell p ty, .tmp u, .tmp u2]) (tmps : Array Value) (w : World) (g : Nat) (t : TypeId) (cs : Array Value) (fr : Nat × Nat) (d : TypeDesc)
    (hp : tmps.getD p undef = .pointer (some ⟨g, 0, none⟩)) (hg : w.heap[g]? = some (.cells cs t fr))
    (hu : P.underlying ty = some d) (hd : (match d with | .struct _ | .array _ _ => true | _ => false) = true) (hi : (P.info? ty).map (·.size) = some cs.size) :
    (results fn tmps).run P w = .ok (.tuple #[.agg cs, tmps.getD u undef, tmps.getD u2 undef]) w := by
  have hp' : tmps[p]?.getD undef = .pointer (some ⟨g, 0, none⟩) := by simpa using hp
  simp [results, h, hp', asAddr, run_loadVar_row w g t ty cs fr d hg hu hd hi]
theorem retPt {fn : Func} {R : Ending → World → Prop} {a : Act} {w : World} {p u u2 : Tmp} {pw ph : Int} {v z z2 : Value} (g : Nat) (hr : fn.results = #[.cell p 25, .tmp u, .tmp u2]) (hB : PicB w g pw ph v) (hp : a.tmps.getD p undef = .pointer (some ⟨g, 0, none⟩)) (hu : a.tmps.getD u undef = z) (hu2 : a.tmps.getD u2 undef = z2) (hd : a.defers = [])
    (hR : R (.returned (.tuple #[.agg #[.int .i64 pw, .int .i64 ph, v], z, z2])) w) : bodyPost Try.prog fn R .ret a w := by
  subst hu; subst hu2
  exact bodyPost_ret (results_cell_tmp2 hr _ _ g 25 _ (0, 0) _ hp hB Try.underlying25 rfl (infoP _ _ _)) hd hR
theorem l20Open_low (B : Nat) (v : Value) (n : Nat) (b : Nat → Int) (w : World) (hB : B ≤ w.heap.size) (h : SlB B w v n b) (hn : n ≤ 1000000000000) :
    Calls Try.prog 36 #[v] w fun e w' => e = .returned (.pointer (some ⟨w.heap.size, 0, none⟩)) ∧ Rd B w' w.heap.size 0 ∧ Below w.heap.size w w' ∧ w'.heap.size = w.heap.size + 1 := by
  have fin : ∀ (v' : Value) (n' : Nat), SlB B w v' n' b → n' ≤ 2000 → Hid (Rd B (w.alloc (.cells #[v', .int .i64 0] 62)) w.heap.size 0 ∧ Below w.heap.size w (w.alloc (.cells #[v', .int .i64 0] 62)) ∧ (w.alloc (.cells #[v', .int .i64 0] 62)).heap.size = w.heap.size + 1) := by
    intro v' n' h' hn'
    exact ⟨⟨v', n', b, 0, heap_alloc_new w _, h'.kept (fun g hg => Below.heap_alloc w _ g (by omega)), hn', Nat.le_refl _, hB⟩, (Below.refl _ _).alloc (Nat.le_refl _) _, by simp⟩
  rcases h with ⟨⟨a, cap, rfl⟩, rfl⟩ | ⟨g, off, cap, rfl, hg, hcap, hc⟩
  · have HF := fin (.slice a 0 cap) 0 (Or.inl ⟨⟨a, cap, rfl⟩, rfl⟩) (by omega); clear fin
    go_enter Try.func36, Try.ntmps36
    go_wp2
    go_ret
    exact ⟨rfl, HF.out⟩
  · by_cases hl : n ≤ 2000
    · have HF := fin (.slice (some ⟨g, off, none⟩) n cap) n (Or.inr ⟨g, off, cap, rfl, hg, hcap, hc⟩) hl; clear fin hc
      go_enter Try.func36, Try.ntmps36
      go_wp2
      go_ret
      exact ⟨rfl, HF.out⟩
    · have HF := fin (.slice (some ⟨g, off, none⟩) 2000 cap) 2000 (Or.inr ⟨g, off, cap, rfl, fun _ => hg (by omega), by omega, fun i hi => hc i (by omega)⟩) (by omega); clear fin hc
      go_enter Try.func36, Try.ntmps36
      go_wp2
      go_ret
      exact ⟨rfl, HF.out⟩
/-- Of the blocks that were there only R and G may have been written. -/
structure But2 (R G : Nat) (w w' : World) : Prop where
  os : w'.os = w.os
  tape : w'.tape = w.tape
  output : w'.output = w.output
  size : w.heap.size ≤ w'.heap.size
  block : ∀ k, k < w.heap.size → (k ≠ R ∧ k ≠ G) → w'.heap[k]? = w.heap[k]?
theorem But2.trans {R G : Nat} {a b c : World} (h : But2 R G a b) (k : But2 R G b c) : But2 R G a c :=
  ⟨k.os.trans h.os, k.tape.trans h.tape, k.output.trans h.output, Nat.le_trans h.size k.size, fun i hi hr => (k.block i (Nat.lt_of_lt_of_le hi h.size) hr).trans (h.block i hi hr)⟩
def SX (R G : Nat) (pw ph : Int) (u : Value) (a w : World) : Prop := But2 R G a w ∧ (PicB w G 0 0 (.slice none 0 0) ∨ PicB w G pw ph u)
def RX (R G : Nat) (pw ph : Int) (u : Value) (a w : World) : Prop := But2 R G a w ∧ (w.heap[G]? = a.heap[G]? ∨ PicB w G pw ph u)
theorem RX.refl (R G : Nat) (pw ph : Int) (u : Value) (w : World) : RX R G pw ph u w w := ⟨⟨rfl, rfl, rfl, Nat.le_refl _, fun _ _ _ => rfl⟩, .inl rfl⟩
theorem RX.only {R G : Nat} {pw ph : Int} {u : Value} {a w : World} (ho : Only R a w) (hG : G ≠ R) : RX R G pw ph u a w := ⟨⟨ho.os, ho.tape, ho.output, by rw [ho.size]; exact Nat.le_refl _, fun k _ hk => ho.block k hk.1⟩, .inl (ho.block G hG)⟩
theorem RX.alloc {R G : Nat} {pw ph : Int} {u : Value} {w : World} (hG : G < w.heap.size) (o : Obj) : RX R G pw ph u w (w.alloc o) :=
  ⟨⟨rfl, rfl, rfl, by simp, fun k hk _ => Below.heap_alloc w o k hk⟩, .inl (Below.heap_alloc w o G hG)⟩
theorem RX.store {R G : Nat} {pw ph a b : Int} {u v : Value} {w : World} (h : PicB w G a b v) : RX R G pw ph u w (w.setRow G #[.int .i64 pw, .int .i64 ph, u]) :=
  ⟨⟨rfl, rfl, rfl, by simp, fun k _ hk => heap_setRow_other _ _ _ _ hk.2⟩, .inr (h.setRow _ _ _)⟩
theorem SX.rx {R G : Nat} {pw ph : Int} {u : Value} {a w w' : World} (h : SX R G pw ph u a w) (r : RX R G pw ph u w w') : SX R G pw ph u a w' :=
  ⟨h.1.trans r.1, by
    rcases r.2 with e | e
    · rcases h.2 with q | q
      · exact .inl (e.trans q)
      · exact .inr (e.trans q)
    · exact .inr e⟩
theorem Rd.storeLow {B : Nat} {w : World} {R m G : Nat} (h : Rd B w R m) (h1 : B ≤ G) (h2 : G ≠ R) (cs : Array Value) : Rd B (w.setRow G cs) R m := by
  obtain ⟨v, n, b, p, e1, e2, e3, e4, e5⟩ := h
  exact ⟨v, n, b, p, (heap_setRow_other _ _ _ _ (Ne.symm h2)).trans e1, e2.kept (fun g hg => heap_setRow_other _ _ _ _ (by omega)), e3, e4, e5⟩
theorem PicB.but2 {R G g : Nat} {w w' : World} {pw ph : Int} {v : Value} (h : PicB w g pw ph v) (hb : But2 R G w w') (hg : g ≠ R ∧ g ≠ G) : PicB w' g pw ph v := (hb.block g h.lt hg).trans h
theorem pic_one {pw ph : Int} {u : Value} (h : u.oneCell' = true) : (#[.int .i64 pw, .int .i64 ph, u] : Array Value).all (·.oneCell') = true := by
  rw [Array.all_eq_true_iff_forall_mem]; intro z hz; simp at hz; rcases hz with rfl | rfl | rfl <;> first | rfl | exact h
theorem rem_bd (a b : Nat) (h1 : a < 12) (h2 : b < 2) : ((a : Int).tdiv 10 * (1 + (b : Int))).tmod 3 = ((a / 10 * (1 + b) % 3 : Nat) : Int) := by
  rw [Int.tdiv_eq_ediv_of_nonneg (by omega), Int.tmod_eq_emod_of_nonneg (Int.mul_nonneg (by omega) (by omega))]
  simp
set_option maxRecDepth 100000 in
set_option maxHeartbeats 2000000 in
theorem DrawSampleAt_any (v : Value) (n : Nat) (c : Nat → Int) (w : World) (h : SlB w.heap.size w v n c) (hn : n ≤ 1000000000000) :
    Calls Try.prog 24 #[v] w (SDrawn w) := by
  obtain ⟨w0, hw0⟩ : ∃ w0, w0 = w.alloc (.cells #[.int .i64 0, .int .i64 0, .slice none 0 0] 25) := ⟨_, rfl⟩
  have hA : PicB w0 w.heap.size 0 0 (.slice none 0 0) := by rw [hw0]; exact PicB.new' rfl
  have hbel : Below w.heap.size w w0 := by rw [hw0]; exact (Below.refl _ _).alloc (Nat.le_refl _) _
  have HS := Lib.hid (h.kept (fun g hg => hbel.block g hg) : SlB w.heap.size w0 v n c)
  have HW := Lib.hid hw0
  have hs0 : w.heap.size + 1 = w0.heap.size := by rw [hw0]; simp
  clear hw0 h
  go_enter Try.func24, Try.ntmps24
  go_wp2_with fail
  rw [← HW.out]
  clear HW
  refine (l20Open_low w.heap.size v n c _ (by omega) HS.out hn).mono ?_; rintro e w1 ⟨rfl, hr1, hb1, hz1⟩
  have HA := Lib.hid (hA.below hb1 hA.lt)
  have HB := Lib.hid (hbel.trans (hb1.mono (by omega)))
  have HR := Lib.hid hr1
  have hl1 := hr1.lt
  clear hA hbel hr1 hb1 HS
  go_wp2_with fail
  refine (l20Picture_any _ _ 0 12 _ HR.out (by omega) (by omega) (by omega)).mono ?_; rintro e w2 ⟨pw, ph, u, k, f, rfl, hS, hk, hr, hU⟩
  have zw2 := hU.size
  have HA2 := Lib.hid (HA.out.but hU (by omega))
  have HB2 := Lib.hid (HB.out.trans (hU.below (B := w.heap.size) (by omega) (by omega)))
  replace HR := Lib.hid hr
  have h1 := hS.one
  have SP := Lib.hid hS
  clear HA HB hU hS hr
  have HN := Lib.hid (show PicB (w2.alloc (.cells #[.int .i64 0, .int .i64 0, .slice none 0 0] 25)) w2.heap.size 0 0 (.slice none 0 0) from PicB.new' rfl)
  obtain ⟨w3, hw⟩ : ∃ x, x = (w2.alloc (.cells #[.int .i64 0, .int .i64 0, .slice none 0 0] 25)).setRow w2.heap.size #[.int .i64 pw, .int .i64 ph, u] := ⟨_, rfl⟩
  have hV : PicB w3 w2.heap.size pw ph u := by rw [hw]; exact HN.out.setRow _ _ _
  have hb3 : Below w2.heap.size w2 w3 := by rw [hw]; exact below_setRow ((Below.refl _ _).alloc (Nat.le_refl _) _) (Nat.le_refl _) _
  have zw3 : w2.heap.size < w3.heap.size := by rw [hw]; simp
  have HW := Lib.hid hw; clear hw
  have HA := Lib.hid (HA2.out.below hb3 HA2.out.lt)
  have HB := Lib.hid (HB2.out.trans (hb3.mono (by omega)))
  replace SP := Lib.hid (SP.out.below hb3 (by omega))
  replace HR := Lib.hid (show Rd w.heap.size w3 w0.heap.size (0 + 1060 + 0) from HR.out.below hb3 (by omega))
  have Vp := Lib.hid hV
  clear HA2 HB2 hb3 hV
  go_wp2_with (refine storeP w2.heap.size HN.out h1 rfl rfl rfl rfl ?_; rw [← HW.out])
  clear HW HN
  refine wp_region_lo 20 (fun k w' => Rd w.heap.size w' w0.heap.size (0 + 1060 + 0 + k) ∧ SX w0.heap.size w.heap.size pw ph u w3 w') (fun w1 w2 => RX w0.heap.size w.heap.size pw ph u w1 w2) [(fun _ v => v = .agg #[.int .i64 pw, .int .i64 ph, u]), (fun _ v => v = .pointer (some ⟨w0.heap.size, 0, none⟩)), (fun _ v => ∃ k : Nat, v = .int .i64 (k : Int) ∧ k < 40), (fun _ v => ∃ x : Int, v = .int .i64 x ∧ (-4) ≤ x ∧ x ≤ 36), (fun _ v => v = .pointer (some ⟨w0.heap.size, 0, none⟩)), (fun _ v => ∃ k : Nat, v = .int .i64 (k : Int) ∧ k < 40), (fun _ v => ∃ x : Int, v = .int .i64 x ∧ (-4) ≤ x ∧ x ≤ 36), (fun w' v => ∃ (L : Nat) (x : Int), v = .slice (some ⟨L, 0, none⟩) 3 3 ∧ (-4 ≤ x ∧ x ≤ 36) ∧ w0.heap.size < L ∧ w'.heap[L]? = some (.cells (([x, -4611686018427387904, 4611686018427387904] : List Int).map (Value.int .i64)).toArray 3 (0, 0))), (fun _ v => v = .pointer (some ⟨w0.heap.size, 0, none⟩)), (fun _ v => ∃ k : Nat, v = .int .i64 (k : Int) ∧ k < 12), (fun _ v => ∃ x : Int, v = .int .i64 x ∧ 0 ≤ x ∧ x ≤ 1), (fun _ v => v = .pointer (some ⟨w0.heap.size, 0, none⟩)), (fun _ v => ∃ k : Nat, v = .int .i64 (k : Int) ∧ k < 2), (fun _ v => ∃ x : Int, v = .int .i64 x ∧ 1 ≤ x ∧ x ≤ 2), (fun _ v => ∃ x : Int, v = .int .i64 x ∧ 0 ≤ x ∧ x ≤ 2), (fun _ v => ∃ j : Nat, v = .int .i64 (j : Int) ∧ j < 3), (fun w' v => ∃ (L j : Nat) (x : Int), v = .pointer (some ⟨L, j, none⟩) ∧ (-4611686018427387904 ≤ x ∧ x ≤ 4611686018427387904) ∧ w0.heap.size < L ∧ L < w'.heap.size ∧ w'.cell? ⟨L, j, none⟩ = some (.int .i64 x)), (fun _ v => ∃ x : Int, v = .int .i64 x ∧ (-4611686018427387904) ≤ x ∧ x ≤ 4611686018427387904), (fun w' _ => PicB w' w.heap.size pw ph u), (fun _ v => ∃ x : Int, v = .int .i64 x ∧ (-4) ≤ x ∧ x ≤ 36)] (by kernel_rfl) (by kernel_rfl) ⟨HR.out.kept (fun _ _ => rfl), ⟨⟨rfl, rfl, rfl, Nat.le_refl _, fun _ _ _ => rfl⟩, .inl HA.out⟩⟩ ?_ ?_ ?_
  · intro V hV w1 w2 v hv hr
    simp only [List.mem_cons, List.not_mem_nil, or_false] at hV
    rcases hV with rfl | rfl | rfl | rfl | rfl | rfl | rfl | rfl | rfl | rfl | rfl | rfl | rfl | rfl | rfl | rfl | rfl | rfl | rfl | rfl
    · exact hv
    · exact hv
    · exact hv
    · exact hv
    · exact hv
    · exact hv
    · exact hv
    · obtain ⟨L, y, e, b, h1, h2⟩ := hv; exact ⟨L, y, e, b, h1, (hr.1.block L (Array.getElem?_eq_some_iff.1 h2).1 (by omega)).trans h2⟩
    · exact hv
    · exact hv
    · exact hv
    · exact hv
    · exact hv
    · exact hv
    · exact hv
    · exact hv
    · obtain ⟨L, j, x, e, b, h1, h2, h3⟩ := hv; exact ⟨L, j, x, e, b, h1, Nat.lt_of_lt_of_le h2 hr.1.size, (World.cell?_of_block (hr.1.block L h2 (by omega))).trans h3⟩
    · exact hv
    · exact hr.2.elim (fun e => e.trans hv) id
    · exact hv
  · refine ⟨?_, ?_, ?_, ?_, ?_, ?_, ?_, ?_, ?_, ?_, ?_, ?_, ?_, ?_, ?_, ?_, ?_, ?_, ?_, ?_, trivial⟩
    · intro vs k1 w1 hk1 hS1 hd fb hb K hK
      replace hb : fb = _ := hb
      subst hb
      refine wp_load_row _ _ rfl (w2.heap.size) rfl _ _ (0, 0) _ (Vp.out.but2 hS1.2.1 (by omega)) Try.underlying25 rfl (infoP _ _ _) ?_
      exact hK.out _ _ ⟨hS1.1.mono (by omega), hS1.2⟩ (RX.refl _ _ _ _ _ _) rfl
    · intro vs k1 w1 hk1 hS1 hd fb hb K hK
      replace hb : fb = _ := hb
      subst hb
      go_simp
      exact hK.out _ _ ⟨hS1.1.mono (by omega), hS1.2⟩ (RX.refl _ _ _ _ _ _) rfl
    · intro vs k1 w1 hk1 hS1 hd fb hb K hK
      obtain ⟨d1, _⟩ := hd
      replace hb : fb = Act.put (_) (some 12) (vs 1) := hb
      have e1 : vs 1 = .pointer (some ⟨w0.heap.size, 0, none⟩) := d1
      rw [e1] at hb; clear e1 d1
      subst hb
      go_simp
      refine (pick_any w.heap.size w0.heap.size (0 + 1060 + 0 + k1) 40 _ hS1.1 (by omega) (by omega)).mono ?_; rintro e w2 ⟨x, rfl, x0, x1, hr, ho⟩
      exact hK.out _ _ ⟨hr, hS1.2.rx (RX.only ho (by omega))⟩ (RX.only ho (by omega)) ⟨x.toNat, by rw [Int.toNat_of_nonneg x0], by omega⟩
    · intro vs k1 w1 hk1 hS1 hd fb hb K hK
      obtain ⟨d2, _⟩ := hd
      replace hb : fb = Act.put (_) (some 13) (vs 2) := hb
      obtain ⟨n2, e2, hn2⟩ := d2
      rw [e2] at hb; clear e2
      subst hb
      have ew : IntKind.i64.wrap ((n2 : Int) - 4) = (n2 : Int) - 4 := IntWalk.i64_in _ (by omega)
      go_simp
      exact hK.out _ _ ⟨hS1.1.mono (by omega), hS1.2⟩ (RX.refl _ _ _ _ _ _) ⟨_, rfl, by omega, by omega⟩
    · intro vs k1 w1 hk1 hS1 hd fb hb K hK
      replace hb : fb = _ := hb
      subst hb
      go_simp
      exact hK.out _ _ ⟨hS1.1.mono (by omega), hS1.2⟩ (RX.refl _ _ _ _ _ _) rfl
    · intro vs k1 w1 hk1 hS1 hd fb hb K hK
      obtain ⟨d4, d2, _⟩ := hd
      replace hb : fb = Act.put (Act.put (_) (some 15) (vs 4)) (some 13) (vs 2) := hb
      have e4 : vs 4 = .pointer (some ⟨w0.heap.size, 0, none⟩) := d4
      rw [e4] at hb; clear e4 d4
      obtain ⟨n2, e2, hn2⟩ := d2
      rw [e2] at hb; clear e2
      subst hb
      go_simp
      refine (pick_any w.heap.size w0.heap.size (0 + 1060 + 0 + k1) 40 _ hS1.1 (by omega) (by omega)).mono ?_; rintro e w2 ⟨x, rfl, x0, x1, hr, ho⟩
      exact hK.out _ _ ⟨hr, hS1.2.rx (RX.only ho (by omega))⟩ (RX.only ho (by omega)) ⟨x.toNat, by rw [Int.toNat_of_nonneg x0], by omega⟩
    · intro vs k1 w1 hk1 hS1 hd fb hb K hK
      obtain ⟨d5, _⟩ := hd
      replace hb : fb = Act.put (_) (some 16) (vs 5) := hb
      obtain ⟨n5, e5, hn5⟩ := d5
      rw [e5] at hb; clear e5
      subst hb
      have ew : IntKind.i64.wrap ((n5 : Int) - 4) = (n5 : Int) - 4 := IntWalk.i64_in _ (by omega)
      go_simp
      exact hK.out _ _ ⟨hS1.1.mono (by omega), hS1.2⟩ (RX.refl _ _ _ _ _ _) ⟨_, rfl, by omega, by omega⟩
    · intro vs k1 w1 hk1 hS1 hd fb hb K hK
      obtain ⟨d6, _⟩ := hd
      replace hb : fb = Act.put (_) (some 17) (vs 6) := hb
      obtain ⟨x6, e6, lo6, hi6⟩ := d6
      rw [e6] at hb; clear e6
      subst hb
      have hRl := hS1.1.lt
      go_simp
      exact hK.out _ _ ⟨(hS1.1.mono (by omega)).alloc _, hS1.2.rx (RX.alloc (by omega) _)⟩ (RX.alloc (by omega) _) ⟨w1.heap.size, x6, rfl, ⟨lo6, hi6⟩, hRl, heap_alloc_new w1 _⟩
    · intro vs k1 w1 hk1 hS1 hd fb hb K hK
      replace hb : fb = _ := hb
      subst hb
      go_simp
      exact hK.out _ _ ⟨hS1.1.mono (by omega), hS1.2⟩ (RX.refl _ _ _ _ _ _) rfl
    · intro vs k1 w1 hk1 hS1 hd fb hb K hK
      obtain ⟨d8, d5, _⟩ := hd
      replace hb : fb = Act.put (Act.put (_) (some 19) (vs 8)) (some 16) (vs 5) := hb
      have e8 : vs 8 = .pointer (some ⟨w0.heap.size, 0, none⟩) := d8
      rw [e8] at hb; clear e8 d8
      obtain ⟨n5, e5, hn5⟩ := d5
      rw [e5] at hb; clear e5
      subst hb
      go_simp
      refine (pick_any w.heap.size w0.heap.size (0 + 1060 + 0 + k1) 12 _ hS1.1 (by omega) (by omega)).mono ?_; rintro e w2 ⟨x, rfl, x0, x1, hr, ho⟩
      exact hK.out _ _ ⟨hr, hS1.2.rx (RX.only ho (by omega))⟩ (RX.only ho (by omega)) ⟨x.toNat, by rw [Int.toNat_of_nonneg x0], by omega⟩
    · intro vs k1 w1 hk1 hS1 hd fb hb K hK
      obtain ⟨d9, _⟩ := hd
      replace hb : fb = Act.put (_) (some 20) (vs 9) := hb
      obtain ⟨n9, e9, hn9⟩ := d9
      rw [e9] at hb; clear e9
      subst hb
      have ew : IntKind.i64.wrap ((n9 : Int) / 10) = (n9 : Int) / 10 := IntWalk.i64_in _ (by omega)
      go_simp
      exact hK.out _ _ ⟨hS1.1.mono (by omega), hS1.2⟩ (RX.refl _ _ _ _ _ _) ⟨_, rfl, by omega, by omega⟩
    · intro vs k1 w1 hk1 hS1 hd fb hb K hK
      replace hb : fb = _ := hb
      subst hb
      go_simp
      exact hK.out _ _ ⟨hS1.1.mono (by omega), hS1.2⟩ (RX.refl _ _ _ _ _ _) rfl
    · intro vs k1 w1 hk1 hS1 hd fb hb K hK
      obtain ⟨d11, d9, _⟩ := hd
      replace hb : fb = Act.put (Act.put (_) (some 22) (vs 11)) (some 20) (vs 9) := hb
      have e11 : vs 11 = .pointer (some ⟨w0.heap.size, 0, none⟩) := d11
      rw [e11] at hb; clear e11 d11
      obtain ⟨n9, e9, hn9⟩ := d9
      rw [e9] at hb; clear e9
      subst hb
      go_simp
      refine (pick_any w.heap.size w0.heap.size (0 + 1060 + 0 + k1) 2 _ hS1.1 (by omega) (by omega)).mono ?_; rintro e w2 ⟨x, rfl, x0, x1, hr, ho⟩
      exact hK.out _ _ ⟨hr, hS1.2.rx (RX.only ho (by omega))⟩ (RX.only ho (by omega)) ⟨x.toNat, by rw [Int.toNat_of_nonneg x0], by omega⟩
    · intro vs k1 w1 hk1 hS1 hd fb hb K hK
      obtain ⟨d12, _⟩ := hd
      replace hb : fb = Act.put (_) (some 23) (vs 12) := hb
      obtain ⟨n12, e12, hn12⟩ := d12
      rw [e12] at hb; clear e12
      subst hb
      have ew : IntKind.i64.wrap (1 + (n12 : Int)) = 1 + (n12 : Int) := IntWalk.i64_in _ (by omega)
      go_simp
      exact hK.out _ _ ⟨hS1.1.mono (by omega), hS1.2⟩ (RX.refl _ _ _ _ _ _) ⟨_, rfl, by omega, by omega⟩
    · intro vs k1 w1 hk1 hS1 hd fb hb K hK
      obtain ⟨d10, d13, _⟩ := hd
      replace hb : fb = Act.put (Act.put (_) (some 21) (vs 10)) (some 24) (vs 13) := hb
      obtain ⟨x10, e10, lo10, hi10⟩ := d10
      rw [e10] at hb; clear e10
      obtain ⟨x13, e13, lo13, hi13⟩ := d13
      rw [e13] at hb; clear e13
      subst hb
      have m1 : 0 ≤ x10 * x13 ∧ x10 * x13 ≤ 2 := by
        have h0 : x10 = 0 ∨ x10 = 1 := by omega
        rcases h0 with h0 | h0 <;> rw [h0] <;> omega
      have ew : IntKind.i64.wrap (x10 * x13) = x10 * x13 := IntWalk.i64_in _ (by omega)
      go_simp
      exact hK.out _ _ ⟨hS1.1.mono (by omega), hS1.2⟩ (RX.refl _ _ _ _ _ _) ⟨_, rfl, by omega, by omega⟩
    · intro vs k1 w1 hk1 hS1 hd fb hb K hK
      obtain ⟨d14, _⟩ := hd
      replace hb : fb = Act.put (_) (some 25) (vs 14) := hb
      obtain ⟨x14, e14, lo14, hi14⟩ := d14
      rw [e14] at hb; clear e14
      subst hb
      obtain ⟨y, rfl⟩ := Int.eq_ofNat_of_zero_le lo14
      have d2 : (y : Int).tmod 3 = ((y % 3 : Nat) : Int) := by rw [Int.tmod_eq_emod_of_nonneg (by omega)]; omega
      go_simp
      exact hK.out _ _ ⟨hS1.1.mono (by omega), hS1.2⟩ (RX.refl _ _ _ _ _ _) ⟨y % 3, rfl, by omega⟩
    · intro vs k1 w1 hk1 hS1 hd fb hb K hK
      obtain ⟨d7, d15, _⟩ := hd
      replace hb : fb = Act.put (Act.put (_) (some 18) (vs 7)) (some 26) (vs 15) := hb
      obtain ⟨L7, y7, e7, b7, l7, q7⟩ := d7
      rw [e7] at hb; clear e7
      obtain ⟨n15, e15, hn15⟩ := d15
      rw [e15] at hb; clear e15
      subst hb
      have hkj1 : (n15 : Int) < 3 := by omega
      have hLl := (Array.getElem?_eq_some_iff.1 q7).1
      have hLk := lit_cell [y7, -4611686018427387904, 4611686018427387904] q7 n15 (by simp; omega)
      go_simp
      exact hK.out _ _ ⟨hS1.1.mono (by omega), hS1.2⟩ (RX.refl _ _ _ _ _ _) ⟨L7, n15, _, rfl, pickL_bd (lo := -4611686018427387904) (hi := 4611686018427387904) (by simp; omega) n15 (by simp; omega), l7, hLl, hLk⟩
    · intro vs k1 w1 hk1 hS1 hd fb hb K hK
      obtain ⟨d16, _⟩ := hd
      replace hb : fb = Act.put (_) (some 27) (vs 16) := hb
      obtain ⟨L16, j16, x16, e16, b16, l16, z16, q16⟩ := d16
      rw [e16] at hb; clear e16
      subst hb
      go_simp
      exact hK.out _ _ ⟨hS1.1.mono (by omega), hS1.2⟩ (RX.refl _ _ _ _ _ _) ⟨_, rfl, by omega, by omega⟩
    · intro vs k1 w1 hk1 hS1 hd fb hb K hK
      obtain ⟨d0, d12, _, _⟩ := hd
      replace hb : fb = Act.put (Act.put (Act.put (_) (some 11) (vs 0)) (some 23) (vs 12)) (some 11) (vs 0) := hb
      have e0 : vs 0 = .agg #[.int .i64 pw, .int .i64 ph, u] := d0
      rw [e0] at hb; clear e0 d0
      obtain ⟨n12, e12, hn12⟩ := d12
      rw [e12] at hb; clear e12
      subst hb
      have hG : ∃ a b v, PicB w1 w.heap.size a b v := hS1.2.2.elim (fun h => ⟨_, _, _, h⟩) (fun h => ⟨_, _, _, h⟩)
      obtain ⟨ga, gb, gv, hG⟩ := hG
      refine wp_store_row _ _ _ rfl (w.heap.size) _ rfl rfl _ _ hG (infoP _ _ _) rfl (pic_one h1) ?_
      exact hK.out _ _ ⟨(hS1.1.mono (by omega)).storeLow (Nat.le_refl _) (by omega) _, hS1.2.rx (RX.store hG)⟩ (RX.store hG) (hG.setRow _ _ _)
    · intro vs k1 w1 hk1 hS1 hd fb hb K hK
      obtain ⟨d3, d18, d0, d1, d2, _, _, _⟩ := hd
      replace hb : fb = Act.put (Act.put (Act.put (Act.put (Act.put (Act.put (Act.put (_) (some 14) (vs 3)) none (vs 18)) (some 11) (vs 0)) (some 12) (vs 1)) (some 13) (vs 2)) (some 14) (vs 3)) none (vs 18) := hb
      obtain ⟨x3, e3, lo3, hi3⟩ := d3
      rw [e3] at hb; clear e3
      have e0 : vs 0 = .agg #[.int .i64 pw, .int .i64 ph, u] := d0
      rw [e0] at hb; clear e0 d0
      have e1 : vs 1 = .pointer (some ⟨w0.heap.size, 0, none⟩) := d1
      rw [e1] at hb; clear e1 d1
      obtain ⟨n2, e2, hn2⟩ := d2
      rw [e2] at hb; clear e2
      simp only [Act.put, List.setIfInBounds_toArray, List.set_cons_succ, List.set_cons_zero] at hb
      subst hb
      go_simp
      exact hK.out _ _ ⟨hS1.1.mono (by omega), hS1.2⟩ (RX.refl _ _ _ _ _ _) ⟨_, rfl, by omega, by omega⟩
  · intro vs w1 hS1 hd fb hb
    obtain ⟨d0, d1, d2, d3, d4, d5, d6, d7, d8, d9, d10, d11, d12, d13, d14, d15, d16, d17, d18, d19, _⟩ := hd
    replace hb : fb = Act.put (Act.put (Act.put (Act.put (Act.put (Act.put (Act.put (Act.put (Act.put (Act.put (Act.put (Act.put (Act.put (Act.put (Act.put (Act.put (Act.put (Act.put (Act.put (Act.put (_) (some 11) (vs 0)) (some 12) (vs 1)) (some 13) (vs 2)) (some 14) (vs 3)) (some 15) (vs 4)) (some 16) (vs 5)) (some 17) (vs 6)) (some 18) (vs 7)) (some 19) (vs 8)) (some 20) (vs 9)) (some 21) (vs 10)) (some 22) (vs 11)) (some 23) (vs 12)) (some 24) (vs 13)) (some 25) (vs 14)) (some 26) (vs 15)) (some 27) (vs 16)) (some 28) (vs 17)) none (vs 18)) (some 3) (vs 19) := hb
    have e0 : vs 0 = .agg #[.int .i64 pw, .int .i64 ph, u] := d0
    rw [e0] at hb; clear e0 d0
    have e1 : vs 1 = .pointer (some ⟨w0.heap.size, 0, none⟩) := d1
    rw [e1] at hb; clear e1 d1
    obtain ⟨n2, e2, hn2⟩ := d2
    rw [e2] at hb; clear e2
    obtain ⟨x3, e3, lo3, hi3⟩ := d3
    rw [e3] at hb; clear e3
    have e4 : vs 4 = .pointer (some ⟨w0.heap.size, 0, none⟩) := d4
    rw [e4] at hb; clear e4 d4
    obtain ⟨n5, e5, hn5⟩ := d5
    rw [e5] at hb; clear e5
    obtain ⟨x6, e6, lo6, hi6⟩ := d6
    rw [e6] at hb; clear e6
    obtain ⟨L7, y7, e7, b7, l7, q7⟩ := d7
    rw [e7] at hb; clear e7
    have e8 : vs 8 = .pointer (some ⟨w0.heap.size, 0, none⟩) := d8
    rw [e8] at hb; clear e8 d8
    obtain ⟨n9, e9, hn9⟩ := d9
    rw [e9] at hb; clear e9
    obtain ⟨x10, e10, lo10, hi10⟩ := d10
    rw [e10] at hb; clear e10
    have e11 : vs 11 = .pointer (some ⟨w0.heap.size, 0, none⟩) := d11
    rw [e11] at hb; clear e11 d11
    obtain ⟨n12, e12, hn12⟩ := d12
    rw [e12] at hb; clear e12
    obtain ⟨x13, e13, lo13, hi13⟩ := d13
    rw [e13] at hb; clear e13
    obtain ⟨x14, e14, lo14, hi14⟩ := d14
    rw [e14] at hb; clear e14
    obtain ⟨n15, e15, hn15⟩ := d15
    rw [e15] at hb; clear e15
    obtain ⟨L16, j16, x16, e16, b16, l16, z16, q16⟩ := d16
    rw [e16] at hb; clear e16
    obtain ⟨x17, e17, lo17, hi17⟩ := d17
    rw [e17] at hb; clear e17
    obtain ⟨x19, e19, lo19, hi19⟩ := d19
    rw [e19] at hb; clear e19
    subst hb
    simp only [List.drop_succ_cons, List.drop_zero, Act.put, List.setIfInBounds_toArray, List.set_cons_succ, List.set_cons_zero]
    have h18 : PicB w1 w.heap.size pw ph u := d18
    clear d18
    have zz := hS1.2.1.size
    have HB4 : Below w.heap.size w w1 := HB.out.trans ⟨hS1.2.1.os, hS1.2.1.tape, hS1.2.1.output, hS1.2.1.size, fun k hk => hS1.2.1.block k (by omega) (by omega)⟩
    have HF := Lib.hid (show ∀ x y : Int, (-4611686018427387904 ≤ x ∧ x ≤ 4611686018427387904) → (-4611686018427387904 ≤ y ∧ y ≤ 4611686018427387904) → SDrawn w (.returned (.tuple #[.agg #[.int .i64 pw, .int .i64 ph, u], .int .i64 x, .int .i64 y])) w1 from fun x y hx hy =>
      ⟨pw, ph, u, k, f, x, y, rfl, (SP.out.kept (fun g h1 h2 => hS1.2.1.block g (by omega) (by omega))).mono (by omega) (by omega), hk, hx, hy, HB4⟩)
    clear HA HB HR SP Vp hS1 HB4
    go_wp2_with fail
    refine retPt w.heap.size Try.results24 h18 rfl rfl rfl rfl (HF.out _ _ (by omega) (by omega))
end Go.Proofs.Ytinmfeflbaeodaa
