/- Drawing two pictures. -/
import Derived.Test.YtinmfeflbaeodaaDrawPic4
namespace Go.Proofs.Ytinmfeflbaeodaa
open Go.RowKit

theorem below_but {R B : Nat} {w w' : World} (h : Below B w w') (hB : w.heap.size ≤ B) : But R w w' := ⟨h.os, h.tape, h.output, h.size, fun k hk _ => h.block k (by omega)⟩
theorem DrawnP.mkN {B R m lo hi n j : Nat} {w w1 : World} {pw ph : Int} {v : Value} {f : Nat → Int} (hS : Sn .i64 lo hi w1 v n f) (hn : n ≤ 1024) (hR : Rd B w1 R (m + 1060)) (hU : But R w w1) (hj : w.heap.size ≤ j ∧ j < lo) (hhi : hi ≤ w1.heap.size) (hRw : R < w.heap.size) :
    DrawnP B R m w (.returned (.agg #[.int .i64 pw, .int .i64 ph, v])) (w1.setRow j #[.int .i64 pw, .int .i64 ph, v]) :=
  ⟨pw, ph, v, n, f, rfl, (hS.setRow (.inl hj.2) _).mono (by omega) (by simpa using hhi), hn, hR.setRow (by omega) _, hU.setRow hj.1 _⟩
theorem mod_div_bd {k n W H : Nat} (hn : n = W * H) (hk : k < n) (hW : 8 ≤ W ∧ W ≤ 32) (hH : H ≤ 32) : ∃ a b : Nat, (k : Int).tmod (W : Int) = (a : Int) ∧ (k : Int).tdiv (W : Int) = (b : Int) ∧ (k : Int) % (W : Int) = (a : Int) ∧ (k : Int) / (W : Int) = (b : Int) ∧ a < 32 ∧ b < 32 := by
  refine ⟨k % W, k / W, by rw [Int.tmod_eq_emod_of_nonneg (by omega)]; simp, by rw [Int.tdiv_eq_ediv_of_nonneg (by omega)]; simp, by simp, by simp, Nat.lt_of_lt_of_le (Nat.mod_lt _ (by omega)) hW.2, ?_⟩
  rw [Nat.div_lt_iff_lt_mul (by omega)]
  have : W * H ≤ W * 32 := Nat.mul_le_mul_left W hH
  rw [hn] at hk
  omega
theorem pv_sides {pw ph : Int} {n : Nat} {b : Nat → Int} (h : pvB pw ph n b = true) : (8 ≤ pw ∧ pw ≤ 32) ∧ 8 ≤ ph ∧ ph ≤ 32 := by
  obtain ⟨h1, h2, _, _⟩ := pvB_out h
  have h1 := sideB_out h1
  have h2 := sideB_out h2
  omega
set_option maxRecDepth 100000 in
set_option maxHeartbeats 4000000 in
theorem l20Next_any (B R m lo hi : Nat) (pw ph : Int) (v : Value) (n : Nat) (f : Nat → Int) (w : World) (h : Rd B w R m) (hm : m ≤ 20000) (hS : Sn .i64 lo hi w v n f) (hhi : hi ≤ w.heap.size) (hlo : R < lo) (hn : n ≤ 1024) :
    Calls Try.prog 52 #[.pointer (some ⟨R, 0, none⟩), .agg #[.int .i64 pw, .int .i64 ph, v]] w (DrawnP B R (m + 32000) w) := by
  have hR := h.lt
  have h1 := hS.one
  obtain ⟨w0, hw0⟩ : ∃ w0, w0 = (w.alloc (.cells #[.int .i64 pw, .int .i64 ph, v] 25)).alloc (.cells #[.int .i64 0, .int .i64 0, .slice none 0 0] 25) := ⟨_, rfl⟩
  have HP := Lib.hid (show PicB w0 w.heap.size pw ph v by rw [hw0]; exact (PicB.new' rfl).alloc _)
  have HZ := Lib.hid (show PicB w0 (w.heap.size + 1) 0 0 (.slice none 0 0) by rw [hw0]; exact PicB.new' (by simp))
  have HR := Lib.hid (show Rd B w0 R m by rw [hw0]; exact (h.alloc _).alloc _); clear h
  have HU := Lib.hid (show But R w w0 by rw [hw0]; exact ((But.refl _ _).alloc _).alloc _)
  have HS := Lib.hid (show Sn .i64 lo hi w0 v n f by rw [hw0]; exact (hS.alloc hhi _).alloc (by simp; omega) _); clear hS
  have hs0 : w.heap.size + 2 = w0.heap.size := by rw [hw0]; simp
  have HW := Lib.hid hw0; clear hw0
  go_enter Try.func52, Try.ntmps52
  go_wp2_with fail
  rw [← HW.out]; clear HW
  go_wp2_with (refine loadP w.heap.size HP.out rfl rfl rfl ?_)
  refine (sPictureValid_any _ _ _ n f _ (HS.out.sr.mono (by omega)) (by omega)).mono ?_; rintro e w1 ⟨rfl, hb1⟩
  have z1 := hb1.size
  replace HP := Lib.hid (HP.out.below hb1 (by omega)); replace HZ := Lib.hid (HZ.out.below hb1 (by omega)); replace HR := Lib.hid (HR.out.below hb1 (by omega))
  replace HU := Lib.hid (HU.out.trans (below_but hb1 (Nat.le_refl _))); replace HS := Lib.hid (HS.out.below hb1 (by omega))
  clear hb1
  cases hp : pvB pw ph n f
  · go_wp2_with fail
    refine (l20Picture_any B R m 3 _ HR.out (by omega) (by omega) (by omega)).mono ?_; rintro e w2 ⟨qw, qh, u, k, g, rfl, hS2, hk, hr, hU⟩
    have z2 := hU.size
    have hz := HZ.out.but hU (by omega)
    have HF := Lib.hid (DrawnP.mkN (j := w.heap.size + 1) (m := m + 32000) (pw := qw) (ph := qh) hS2 hk (hr.mono (by omega)) (HU.out.trans hU) (by omega) (Nat.le_refl _) hR)
    have h2 := hS2.one
    clear HP HZ HR HU HS hS2 hU hr
    go_wp2_with (refine storeP (w.heap.size + 1) hz h2 rfl rfl rfl rfl ?_)
    exact retP (w.heap.size + 1) Try.results52 (hz.setRow _ _ _) rfl rfl HF.out
  · obtain ⟨s1, s2, hnn, hsm⟩ := pvB_out hp
    have hq := pv_sides hp
    have HV := Lib.hid hp
    clear hp s1 s2
    obtain ⟨W, rfl⟩ := Int.eq_ofNat_of_zero_le (a := pw) (by omega)
    obtain ⟨H, rfl⟩ := Int.eq_ofNat_of_zero_le (a := ph) (by omega)
    have hnW : n = W * H := by have := hnn; rw [← Int.natCast_mul] at this; exact Int.ofNat.inj this
    have hW8 : 8 ≤ W ∧ W ≤ 32 := by omega
    have hH8 : 8 ≤ H ∧ H ≤ 32 := by omega
    have hn64 : 0 < n := by rw [hnW]; exact Nat.mul_pos (by omega) (by omega)
    have HNW := Lib.hid hnW
    have HSM := Lib.hid hsm
    clear hnn hnW hsm hq
    go_wp2_with fail
    refine (pick_any _ _ (m + 0) 7 _ HR.out (by omega) (by omega)).mono ?_; rintro e w2 ⟨k2, rfl, p2, q2, hr, ho⟩
    have z2 := ho.but.size
    replace HR := Lib.hid hr; clear hr
    replace HU := Lib.hid (HU.out.trans ho.but); replace HP := Lib.hid (HP.out.only ho (by omega)); replace HZ := Lib.hid (HZ.out.only ho (by omega)); replace HS := Lib.hid (HS.out.only ho (by omega)); clear ho
    go_wp2_with fail
    refine (pick_any _ _ (m + 1) 7 _ HR.out (by omega) (by omega)).mono ?_; rintro e w3 ⟨k3, rfl, p3, q3, hr, ho⟩
    have z3 := ho.but.size
    replace HR := Lib.hid hr; clear hr
    replace HU := Lib.hid (HU.out.trans ho.but); replace HP := Lib.hid (HP.out.only ho (by omega)); replace HZ := Lib.hid (HZ.out.only ho (by omega)); replace HS := Lib.hid (HS.out.only ho (by omega)); clear ho
    go_wp2_with fail
    refine (pick_any _ _ (m + 2) 4 _ (HR.out.alloc _) (by omega) (by omega)).mono ?_; rintro e w4 ⟨k4, rfl, p4, q4, hr, ho⟩
    replace HR := Lib.hid hr; clear hr
    replace HU := Lib.hid ((HU.out.alloc _).trans ho.but)
    have z4 : w3.heap.size + 1 = w4.heap.size := by have := ho.size; simpa using this.symm
    replace HZ := Lib.hid ((HZ.out.alloc _).only ho (by omega)); replace HP := Lib.hid ((HP.out.alloc _).only ho (by omega)); replace HS := Lib.hid ((HS.out.alloc (by omega) _).only ho (by omega))
    obtain ⟨j4, rfl⟩ := Int.eq_ofNat_of_zero_le p4
    have hj4 : j4 < 4 := by omega
    have hc4 := lit_cell [1, 1, 3, 40] ((ho.block w3.heap.size (by omega)).trans (heap_alloc_new w3 _)) j4 hj4
    have hbd4 := pickL_bd (l := [1, 1, 3, 40]) (lo := 1) (hi := 40) (by simp; try omega) j4 hj4
    generalize pickL [1, 1, 3, 40] j4 = noise at *
    clear ho
    have c0 := HP.out.c0; have c1 := HP.out.c1
    obtain ⟨q, hq⟩ : ∃ q, w4.heap.size = q := ⟨_, rfl⟩
    obtain ⟨w5, hw5⟩ : ∃ w5, w5 = (w4.alloc (.cells #[.int .i64 0, .int .i64 0, .slice none 0 0] 25)).setRow w4.heap.size #[.int .i64 (W : Int), .int .i64 (H : Int), .slice none 0 0] := ⟨_, rfl⟩
    have HN := Lib.hid (show PicB (w4.alloc (.cells #[.int .i64 0, .int .i64 0, .slice none 0 0] 25)) w4.heap.size 0 0 (.slice none 0 0) from PicB.new' rfl)
    have hb5 : Below w4.heap.size w4 w5 := by rw [hw5]; exact below_setRow ((Below.refl _ _).alloc (Nat.le_refl _) _) (Nat.le_refl _) _
    have hQ : PicB w5 q (W : Int) (H : Int) (.slice none 0 0) := by rw [hw5, ← hq]; exact HN.out.setRow _ _ _
    have hP := HP.out.below hb5 (by omega)
    have hZ := HZ.out.below hb5 (by omega)
    have hr := HR.out.below hb5 (by omega)
    have hu := HU.out.trans (below_but hb5 (Nat.le_refl _))
    have hs := HS.out.below hb5 (by omega)
    have HW := Lib.hid hw5
    have HQ := Lib.hid hq
    have hqb : w.heap.size + 2 ≤ q ∧ hi ≤ q := by omega
    obtain ⟨dx, hdx⟩ : ∃ dx : Int, k2 - 3 = dx := ⟨_, rfl⟩
    obtain ⟨dy, hdy⟩ : ∃ dy : Int, k3 - 3 = dy := ⟨_, rfl⟩
    have x1 : -3 ≤ dx ∧ dx ≤ 3 := by omega
    have y1 : -3 ≤ dy ∧ dy ≤ 3 := by omega
    clear hw5 hb5 hq HP HZ HR HU HS
    go_wp2_with (refine storeP w4.heap.size HN.out rfl rfl rfl rfl rfl ?_; rw [← HW.out, HQ.out])
    try rw [hdx, hdy]
    clear HW HN c0 c1 HQ hdx hdy z1 z2 z3 z4 hc4 p2 q2 p3 q3 p4 q4 hj4
    go_loopw [9] (fun i wr => ∃ (k : Nat) (u : Value) (g : Nat → Int), k ≤ n ∧ i = .int .i64 k ∧ Rd B wr R (m + 3 + 30 * k) ∧ But R w wr ∧ PicB wr w.heap.size (W : Int) (H : Int) v ∧ PicB wr (w.heap.size + 1) 0 0 (.slice none 0 0) ∧ PicB wr q (W : Int) (H : Int) u ∧ OwnK .i64 3 (q + 1) wr u k g ∧ Sn .i64 lo hi wr v n f) (fun i _ => n - (intOf i).toNat)
    case atStart => exact ⟨0, _, fun _ => 0, by omega, rfl, hr.mono (by omega), hu, hP, hZ, hQ, OwnK.nil _ _ _ _ _, hs⟩
    case round =>
      clear hP hZ hQ hr hu hs
      obtain ⟨k, u, g, hk, rfl, hr, hu, hP, hZ, hQ, hO, hs⟩ := hrel
      have hsf := hs
      obtain ⟨va, vc, rfl, hvc, hvx⟩ := hsf
      clear hvx
      have d2 := hP.c2
      by_cases hlt : k < n
      · have hlt' : (k : Int) < (n : Int) := by omega
        have MD := mod_div_bd HNW.out hlt hW8 hH8.2
        obtain ⟨km, kd, t1, t2, t5, t6, t3, t4⟩ := MD
        have d0 := hP.c0; have o2 := hQ.c2
        have hPl := hP.lt; have hQl := hQ.lt
        have hRl : R < wr.heap.size := by omega
        have hW0 : ¬ W = 0 := by omega
        have hW1 : ¬ (W : Int) = 0 := by omega
        go_wp2_with fail
        refine wp_region_lo 23 (fun kk w' => Rd B w' R (m + 3 + 30 * k + kk) ∧ But R wr w') (fun w1 w2 => But R w1 w2) [(fun _ v => v = .pointer (some ⟨q, 2, none⟩)), (fun _ v => v = u), (fun _ v => v = .agg #[.int .i64 (W : Int), .int .i64 (H : Int), .slice va n vc]), (fun _ v => v = .int .i64 (k : Int)), (fun _ v => v = .pointer (some ⟨w.heap.size, 0, none⟩)), (fun _ v => v = .int .i64 (W : Int)), (fun _ v => ∃ j : Nat, v = .int .i64 (j : Int) ∧ j < 32), (fun _ v => v = .int .i64 dx), (fun _ v => ∃ x : Int, v = .int .i64 x ∧ (-3) ≤ x ∧ x ≤ 35), (fun _ v => v = .int .i64 (k : Int)), (fun _ v => v = .pointer (some ⟨w.heap.size, 0, none⟩)), (fun _ v => v = .int .i64 (W : Int)), (fun _ v => ∃ j : Nat, v = .int .i64 (j : Int) ∧ j < 32), (fun _ v => v = .int .i64 dy), (fun _ v => ∃ x : Int, v = .int .i64 x ∧ (-3) ≤ x ∧ x ≤ 35), (fun _ v => ∃ x : Int, v = .int .i64 x ∧ 0 ≤ x ∧ x ≤ 255), (fun _ v => v = .pointer (some ⟨R, 0, none⟩)), (fun _ v => v = .int .i64 noise), (fun _ v => ∃ x : Int, v = .int .i64 x ∧ 0 ≤ x ∧ x ≤ 39), (fun _ v => ∃ x : Int, v = .int .i64 x ∧ 0 ≤ x ∧ x ≤ 300), (fun _ v => ∃ x : Int, v = .int .i64 x), (fun _ v => ∃ x : Int, v = .int .i64 x), (fun w' v => ∃ (G : Nat) (y : Int), v = .slice (some ⟨G, 0, none⟩) 1 1 ∧ wr.heap.size ≤ G ∧ G < w'.heap.size ∧ w'.cell? ⟨G, 0, none⟩ = some (.int .i64 y))] (by kernel_rfl) (by kernel_rfl) ⟨hr.kept (fun _ _ => rfl), ⟨rfl, rfl, rfl, Nat.le_refl _, fun _ _ _ => rfl⟩⟩ ?_ ?_ ?_
        · intro V hV w1 w2 v hv hr
          simp only [List.mem_cons, List.not_mem_nil, or_false] at hV
          rcases hV with rfl | rfl | rfl | rfl | rfl | rfl | rfl | rfl | rfl | rfl | rfl | rfl | rfl | rfl | rfl | rfl | rfl | rfl | rfl | rfl | rfl | rfl | rfl
          · exact hv
          · exact hv
          · exact hv
          · exact hv
          · exact hv
          · exact hv
          · exact hv
          · exact hv
          · exact hv
          · exact hv
          · exact hv
          · exact hv
          · exact hv
          · exact hv
          · exact hv
          · exact hv
          · exact hv
          · exact hv
          · exact hv
          · exact hv
          · exact hv
          · exact hv
          · obtain ⟨G, y, e, h1, h2, h3⟩ := hv; exact ⟨G, y, e, h1, Nat.lt_of_lt_of_le h2 hr.size, (World.cell?_of_block (hr.block G h2 (by omega))).trans h3⟩
        · refine ⟨?_, ?_, ?_, ?_, ?_, ?_, ?_, ?_, ?_, ?_, ?_, ?_, ?_, ?_, ?_, ?_, ?_, ?_, ?_, ?_, ?_, ?_, ?_, trivial⟩
          · intro vs k1 w1 hk1 hS1 hd fb hb K hK
            replace hb : fb = _ := hb
            subst hb
            go_simp
            exact hK.out _ _ ⟨hS1.1.mono (by omega), hS1.2⟩ (But.refl _ _) rfl
          · intro vs k1 w1 hk1 hS1 hd fb hb K hK
            obtain ⟨d0, _⟩ := hd
            replace hb : fb = Act.put (_) (some 38) (vs 0) := hb
            have e0 : vs 0 = .pointer (some ⟨q, 2, none⟩) := d0
            rw [e0] at hb; clear e0 d0
            subst hb
            have hc := (World.cell?_of_block (hS1.2.block (q) hQl (by omega))).trans o2
            go_simp
            exact hK.out _ _ ⟨hS1.1.mono (by omega), hS1.2⟩ (But.refl _ _) rfl
          · intro vs k1 w1 hk1 hS1 hd fb hb K hK
            replace hb : fb = _ := hb
            subst hb
            refine wp_load_row _ _ rfl (w.heap.size) rfl _ _ (0, 0) _ (hP.but hS1.2 (by omega)) Try.underlying25 rfl (infoP _ _ _) ?_
            exact hK.out _ _ ⟨hS1.1.mono (by omega), hS1.2⟩ (But.refl _ _) rfl
          · intro vs k1 w1 hk1 hS1 hd fb hb K hK
            replace hb : fb = _ := hb
            subst hb
            go_simp
            exact hK.out _ _ ⟨hS1.1.mono (by omega), hS1.2⟩ (But.refl _ _) rfl
          · intro vs k1 w1 hk1 hS1 hd fb hb K hK
            replace hb : fb = _ := hb
            subst hb
            go_simp
            exact hK.out _ _ ⟨hS1.1.mono (by omega), hS1.2⟩ (But.refl _ _) rfl
          · intro vs k1 w1 hk1 hS1 hd fb hb K hK
            obtain ⟨d4, _⟩ := hd
            replace hb : fb = Act.put (_) (some 42) (vs 4) := hb
            have e4 : vs 4 = .pointer (some ⟨w.heap.size, 0, none⟩) := d4
            rw [e4] at hb; clear e4 d4
            subst hb
            have hc := (World.cell?_of_block (hS1.2.block (w.heap.size) hPl (by omega))).trans d0
            go_simp
            exact hK.out _ _ ⟨hS1.1.mono (by omega), hS1.2⟩ (But.refl _ _) rfl
          · intro vs k1 w1 hk1 hS1 hd fb hb K hK
            obtain ⟨d3, d5, _⟩ := hd
            replace hb : fb = Act.put (Act.put (_) (some 41) (vs 3)) (some 43) (vs 5) := hb
            have e3 : vs 3 = .int .i64 (k : Int) := d3
            rw [e3] at hb; clear e3 d3
            have e5 : vs 5 = .int .i64 (W : Int) := d5
            rw [e5] at hb; clear e5 d5
            subst hb
            have ew : IntKind.i64.wrap (km : Int) = (km : Int) := IntWalk.i64_in _ (by omega)
            go_simp
            exact hK.out _ _ ⟨hS1.1.mono (by omega), hS1.2⟩ (But.refl _ _) ⟨km, rfl, t3⟩
          · intro vs k1 w1 hk1 hS1 hd fb hb K hK
            replace hb : fb = _ := hb
            subst hb
            go_simp
            exact hK.out _ _ ⟨hS1.1.mono (by omega), hS1.2⟩ (But.refl _ _) rfl
          · intro vs k1 w1 hk1 hS1 hd fb hb K hK
            obtain ⟨d6, d7, _⟩ := hd
            replace hb : fb = Act.put (Act.put (_) (some 44) (vs 6)) (some 45) (vs 7) := hb
            obtain ⟨n6, e6, hn6⟩ := d6
            rw [e6] at hb; clear e6
            have e7 : vs 7 = .int .i64 dx := d7
            rw [e7] at hb; clear e7 d7
            subst hb
            have ew : IntKind.i64.wrap ((n6 : Int) + dx) = (n6 : Int) + dx := IntWalk.i64_in _ (by omega)
            go_simp
            exact hK.out _ _ ⟨hS1.1.mono (by omega), hS1.2⟩ (But.refl _ _) ⟨_, rfl, by omega, by omega⟩
          · intro vs k1 w1 hk1 hS1 hd fb hb K hK
            replace hb : fb = _ := hb
            subst hb
            go_simp
            exact hK.out _ _ ⟨hS1.1.mono (by omega), hS1.2⟩ (But.refl _ _) rfl
          · intro vs k1 w1 hk1 hS1 hd fb hb K hK
            replace hb : fb = _ := hb
            subst hb
            go_simp
            exact hK.out _ _ ⟨hS1.1.mono (by omega), hS1.2⟩ (But.refl _ _) rfl
          · intro vs k1 w1 hk1 hS1 hd fb hb K hK
            obtain ⟨d10, _⟩ := hd
            replace hb : fb = Act.put (_) (some 48) (vs 10) := hb
            have e10 : vs 10 = .pointer (some ⟨w.heap.size, 0, none⟩) := d10
            rw [e10] at hb; clear e10 d10
            subst hb
            have hc := (World.cell?_of_block (hS1.2.block (w.heap.size) hPl (by omega))).trans d0
            go_simp
            exact hK.out _ _ ⟨hS1.1.mono (by omega), hS1.2⟩ (But.refl _ _) rfl
          · intro vs k1 w1 hk1 hS1 hd fb hb K hK
            obtain ⟨d9, d11, _⟩ := hd
            replace hb : fb = Act.put (Act.put (_) (some 47) (vs 9)) (some 49) (vs 11) := hb
            have e9 : vs 9 = .int .i64 (k : Int) := d9
            rw [e9] at hb; clear e9 d9
            have e11 : vs 11 = .int .i64 (W : Int) := d11
            rw [e11] at hb; clear e11 d11
            subst hb
            have ew : IntKind.i64.wrap (kd : Int) = (kd : Int) := IntWalk.i64_in _ (by omega)
            go_simp
            exact hK.out _ _ ⟨hS1.1.mono (by omega), hS1.2⟩ (But.refl _ _) ⟨kd, rfl, t4⟩
          · intro vs k1 w1 hk1 hS1 hd fb hb K hK
            replace hb : fb = _ := hb
            subst hb
            go_simp
            exact hK.out _ _ ⟨hS1.1.mono (by omega), hS1.2⟩ (But.refl _ _) rfl
          · intro vs k1 w1 hk1 hS1 hd fb hb K hK
            obtain ⟨d12, d13, _⟩ := hd
            replace hb : fb = Act.put (Act.put (_) (some 50) (vs 12)) (some 51) (vs 13) := hb
            obtain ⟨n12, e12, hn12⟩ := d12
            rw [e12] at hb; clear e12
            have e13 : vs 13 = .int .i64 dy := d13
            rw [e13] at hb; clear e13 d13
            subst hb
            have ew : IntKind.i64.wrap ((n12 : Int) + dy) = (n12 : Int) + dy := IntWalk.i64_in _ (by omega)
            go_simp
            exact hK.out _ _ ⟨hS1.1.mono (by omega), hS1.2⟩ (But.refl _ _) ⟨_, rfl, by omega, by omega⟩
          · intro vs k1 w1 hk1 hS1 hd fb hb K hK
            obtain ⟨d2, d8, d14, _⟩ := hd
            replace hb : fb = Act.put (Act.put (Act.put (_) (some 40) (vs 2)) (some 46) (vs 8)) (some 52) (vs 14) := hb
            have e2 : vs 2 = .agg #[.int .i64 (W : Int), .int .i64 (H : Int), .slice va n vc] := d2
            rw [e2] at hb; clear e2 d2
            obtain ⟨x8, e8, lo8, hi8⟩ := d8
            rw [e8] at hb; clear e8
            obtain ⟨x14, e14, lo14, hi14⟩ := d14
            rw [e14] at hb; clear e14
            subst hb
            go_simp
            have zz := hS1.2.size
            have hat := at_bd HV.out x8 x14
            have hsb := HSM.out _ hat.2.2.2.2.2
            refine (sAt_any (W : Int) (H : Int) x8 x14 _ n f _ ((hs.but hS1.2 (by omega)).sr.mono (by omega)) HV.out).mono ?_; rintro e w2 ⟨rfl, hb⟩
            exact hK.out _ _ ⟨(hS1.1.below hb (by omega)).mono (by omega), hS1.2.trans (below_but hb (Nat.le_refl _))⟩ (below_but hb (Nat.le_refl _)) ⟨_, rfl, hsb.1, hsb.2⟩
          · intro vs k1 w1 hk1 hS1 hd fb hb K hK
            replace hb : fb = _ := hb
            subst hb
            go_simp
            exact hK.out _ _ ⟨hS1.1.mono (by omega), hS1.2⟩ (But.refl _ _) rfl
          · intro vs k1 w1 hk1 hS1 hd fb hb K hK
            replace hb : fb = _ := hb
            subst hb
            go_simp
            exact hK.out _ _ ⟨hS1.1.mono (by omega), hS1.2⟩ (But.refl _ _) rfl
          · intro vs k1 w1 hk1 hS1 hd fb hb K hK
            obtain ⟨d16, d17, d15, _⟩ := hd
            replace hb : fb = Act.put (Act.put (Act.put (_) (some 54) (vs 16)) (some 55) (vs 17)) (some 53) (vs 15) := hb
            have e16 : vs 16 = .pointer (some ⟨R, 0, none⟩) := d16
            rw [e16] at hb; clear e16 d16
            have e17 : vs 17 = .int .i64 noise := d17
            rw [e17] at hb; clear e17 d17
            obtain ⟨x15, e15, lo15, hi15⟩ := d15
            rw [e15] at hb; clear e15
            subst hb
            go_simp
            refine (pick_any B R (m + 3 + 30 * k + k1) noise _ hS1.1 (by omega) (by omega)).mono ?_; rintro e w2 ⟨x, rfl, x0, x1, hr, ho⟩
            exact hK.out _ _ ⟨hr, hS1.2.trans ho.but⟩ ho.but ⟨x, rfl, by omega, by omega⟩
          · intro vs k1 w1 hk1 hS1 hd fb hb K hK
            obtain ⟨d15, d18, _⟩ := hd
            replace hb : fb = Act.put (Act.put (_) (some 53) (vs 15)) (some 56) (vs 18) := hb
            obtain ⟨x15, e15, lo15, hi15⟩ := d15
            rw [e15] at hb; clear e15
            obtain ⟨x18, e18, lo18, hi18⟩ := d18
            rw [e18] at hb; clear e18
            subst hb
            have ew : IntKind.i64.wrap (x15 + x18) = x15 + x18 := IntWalk.i64_in _ (by omega)
            go_simp
            exact hK.out _ _ ⟨hS1.1.mono (by omega), hS1.2⟩ (But.refl _ _) ⟨_, rfl, by omega, by omega⟩
          · intro vs k1 w1 hk1 hS1 hd fb hb K hK
            obtain ⟨d19, _⟩ := hd
            replace hb : fb = Act.put (_) (some 57) (vs 19) := hb
            obtain ⟨x19, e19, lo19, hi19⟩ := d19
            rw [e19] at hb; clear e19
            subst hb
            go_simp
            exact hK.out _ _ ⟨hS1.1.mono (by omega), hS1.2⟩ (But.refl _ _) ⟨_, rfl⟩
          · intro vs k1 w1 hk1 hS1 hd fb hb K hK
            obtain ⟨d20, _⟩ := hd
            replace hb : fb = Act.put (_) (some 58) (vs 20) := hb
            obtain ⟨x20, e20⟩ := d20
            rw [e20] at hb; clear e20
            subst hb
            go_simp
            exact hK.out _ _ ⟨hS1.1.mono (by omega), hS1.2⟩ (But.refl _ _) ⟨_, rfl⟩
          · intro vs k1 w1 hk1 hS1 hd fb hb K hK
            obtain ⟨d21, _⟩ := hd
            replace hb : fb = Act.put (_) (some 59) (vs 21) := hb
            obtain ⟨x21, e21⟩ := d21
            rw [e21] at hb; clear e21
            subst hb
            go_simp
            exact hK.out _ _ ⟨(hS1.1.mono (by omega)).alloc _, hS1.2.alloc _⟩ ((But.refl _ _).alloc _) ⟨w1.heap.size, x21, rfl, hS1.2.size, by simp, new_cell' _ _ _⟩
        · intro vs w1 hS1 hd fb hb
          obtain ⟨d0, d1, d2, d3, d4, d5, d6, d7, d8, d9, d10, d11, d12, d13, d14, d15, d16, d17, d18, d19, d20, d21, d22, _⟩ := hd
          replace hb : fb = Act.put (Act.put (Act.put (Act.put (Act.put (Act.put (Act.put (Act.put (Act.put (Act.put (Act.put (Act.put (Act.put (Act.put (Act.put (Act.put (Act.put (Act.put (Act.put (Act.put (Act.put (Act.put (Act.put (_) (some 38) (vs 0)) (some 39) (vs 1)) (some 40) (vs 2)) (some 41) (vs 3)) (some 42) (vs 4)) (some 43) (vs 5)) (some 44) (vs 6)) (some 45) (vs 7)) (some 46) (vs 8)) (some 47) (vs 9)) (some 48) (vs 10)) (some 49) (vs 11)) (some 50) (vs 12)) (some 51) (vs 13)) (some 52) (vs 14)) (some 53) (vs 15)) (some 54) (vs 16)) (some 55) (vs 17)) (some 56) (vs 18)) (some 57) (vs 19)) (some 58) (vs 20)) (some 59) (vs 21)) (some 60) (vs 22) := hb
          have e0 : vs 0 = .pointer (some ⟨q, 2, none⟩) := d0
          rw [e0] at hb; clear e0 d0
          have e1 : vs 1 = u := d1
          rw [e1] at hb; clear e1 d1
          have e2 : vs 2 = .agg #[.int .i64 (W : Int), .int .i64 (H : Int), .slice va n vc] := d2
          rw [e2] at hb; clear e2 d2
          have e3 : vs 3 = .int .i64 (k : Int) := d3
          rw [e3] at hb; clear e3 d3
          have e4 : vs 4 = .pointer (some ⟨w.heap.size, 0, none⟩) := d4
          rw [e4] at hb; clear e4 d4
          have e5 : vs 5 = .int .i64 (W : Int) := d5
          rw [e5] at hb; clear e5 d5
          obtain ⟨n6, e6, hn6⟩ := d6
          rw [e6] at hb; clear e6
          have e7 : vs 7 = .int .i64 dx := d7
          rw [e7] at hb; clear e7 d7
          obtain ⟨x8, e8, lo8, hi8⟩ := d8
          rw [e8] at hb; clear e8
          have e9 : vs 9 = .int .i64 (k : Int) := d9
          rw [e9] at hb; clear e9 d9
          have e10 : vs 10 = .pointer (some ⟨w.heap.size, 0, none⟩) := d10
          rw [e10] at hb; clear e10 d10
          have e11 : vs 11 = .int .i64 (W : Int) := d11
          rw [e11] at hb; clear e11 d11
          obtain ⟨n12, e12, hn12⟩ := d12
          rw [e12] at hb; clear e12
          have e13 : vs 13 = .int .i64 dy := d13
          rw [e13] at hb; clear e13 d13
          obtain ⟨x14, e14, lo14, hi14⟩ := d14
          rw [e14] at hb; clear e14
          obtain ⟨x15, e15, lo15, hi15⟩ := d15
          rw [e15] at hb; clear e15
          have e16 : vs 16 = .pointer (some ⟨R, 0, none⟩) := d16
          rw [e16] at hb; clear e16 d16
          have e17 : vs 17 = .int .i64 noise := d17
          rw [e17] at hb; clear e17 d17
          obtain ⟨x18, e18, lo18, hi18⟩ := d18
          rw [e18] at hb; clear e18
          obtain ⟨x19, e19, lo19, hi19⟩ := d19
          rw [e19] at hb; clear e19
          obtain ⟨x20, e20⟩ := d20
          rw [e20] at hb; clear e20
          obtain ⟨x21, e21⟩ := d21
          rw [e21] at hb; clear e21
          obtain ⟨G, y, e22, G1, G2, G3⟩ := d22
          rw [e22] at hb; clear e22
          subst hb
          simp only [List.drop_succ_cons, List.drop_zero, Act.put, List.setIfInBounds_toArray, List.set_cons_succ, List.set_cons_zero]
          have hP1 := hP.but hS1.2 (by omega)
          have hZ1 := hZ.but hS1.2 (by omega)
          have hQ1 := hQ.but hS1.2 (by omega)
          have hO1 := hO.but hS1.2 (by omega)
          have hu1 := hu.trans hS1.2
          have hs1 := hs.but hS1.2 (by omega)
          have hr1 := hS1.1
          have zz := hS1.2.size
          clear hP hZ hQ hO hu hs hr hS1 d0 d2 o2
          refine appendInt (q + 1) _ G hO1 G3 (by omega) (by omega) rfl rfl rfl rfl ?_
          intro v' w2 hO2 hgrow hat
          have hne : ∀ g, u.ownBlock = some g → q + 1 ≤ g := fun g e => (hO1.lt _ e).1
          have hQ2 := hQ1.grown hgrow (fun e => by have := hne _ e; omega)
          have c2 := hQ2.c2
          have f2 := hQ2.fr 2
          obtain ⟨g', cap', rfl, hcap', hg1, hg2, _⟩ := hO2.form (by omega)
          have HO2 := Lib.hid hO2
          clear hO2
          go_wp2_with fail
          have hP2 := hP1.grown hgrow (fun e => by have := hne _ e; omega)
          have hZ2 := hZ1.grown hgrow (fun e => by have := hne _ e; omega)
          have hr2 := hr1.grown hgrow (fun g e => by have := hne _ e; omega)
          have hu2 := hu1.grown hgrow (fun g e => by have := hne _ e; omega)
          have hs2 := hs1.kept (w' := w2) (fun g h1 h2 => hgrow.block g (by omega) (fun e => by have := hne _ e.symm; omega))
          go_roundw
          case rel => exact ⟨k + 1, _, _, by omega, by go_num, (hr2.setCell (by simp; omega) _).mono (by omega), hu2.setCell (by simp; omega) _, hP2.other (by omega), hZ2.other (by omega), hQ2.set2 _, HO2.out.setCell (by simp [Value.ownBlock]; omega) _, hs2.setCell (.inr (by simp; omega)) _⟩
          case measure => simp [intOf]; omega
      · obtain rfl : k = n := by omega
        have hlt' : ¬ (k : Int) < (k : Int) := by omega
        have hu1 : u.oneCell' = true := by
          rcases hO.2 with ⟨rfl, _⟩ | ⟨g, cap, cur, rfl, _⟩ <;> rfl
        have HF := Lib.hid (DrawnP.mkN (j := w.heap.size + 1) (m := m + 32000) (pw := (W : Int)) (ph := (H : Int)) hO.sn hn (hr.mono (by omega)) hu (by omega) (Nat.le_refl _) hR)
        clear hO hs hr hu
        go_wp2_with (first | refine loadP q hQ rfl rfl rfl ?_ | refine storeP (w.heap.size + 1) hZ hu1 rfl rfl rfl rfl ?_)
        exact retP (w.heap.size + 1) Try.results52 (hZ.setRow _ _ _) rfl rfl HF.out
/-- Two pictures have been drawn. -/
def PairQ (lo R : Nat) (w : World) (e : Ending) (w' : World) : Prop :=
  ∃ (aw ah : Int) (u : Value) (an : Nat) (f : Nat → Int) (bw bh : Int) (v : Value) (bn : Nat) (g : Nat → Int), e = .returned (.tuple #[.agg #[.int .i64 aw, .int .i64 ah, u], .agg #[.int .i64 bw, .int .i64 bh, v]]) ∧ (Sn .i64 lo w'.heap.size w' u an f ∧ an ≤ 1024) ∧ (Sn .i64 lo w'.heap.size w' v bn g ∧ bn ≤ 1024) ∧ But R w w'
theorem results_cell2_rows {P : Program} {fn : Func} {p q : Tmp} {ty : TypeId} (h : fn.results = #[.cell p ty, .cell q ty]) (tmps : Array Value) (w : World) (g g' : Nat) (t : TypeId) (cs cs' : Array Value) (fr fr' : Nat × Nat) (d : TypeDesc)
    (hp : tmps.getD p undef = .pointer (some ⟨g, 0, none⟩)) (hg : w.heap[g]? = some (.cells cs t fr)) (hp2 : tmps.getD q undef = .pointer (some ⟨g', 0, none⟩)) (hg2 : w.heap[g']? = some (.cells cs' t fr'))
    (hu : P.underlying ty = some d) (hd : (match d with | .struct _ | .array _ _ => true | _ => false) = true) (hi : (P.info? ty).map (·.size) = some cs.size) (hi2 : (P.info? ty).map (·.size) = some cs'.size) :
    (results fn tmps).run P w = .ok (.tuple #[.agg cs, .agg cs']) w := by
  have hp' : tmps[p]?.getD undef = .pointer (some ⟨g, 0, none⟩) := by simpa using hp
  have hp2' : tmps[q]?.getD undef = .pointer (some ⟨g', 0, none⟩) := by simpa using hp2
  simp [results, h, hp', hp2', asAddr, run_loadVar_row w g t ty cs fr d hg hu hd hi, run_loadVar_row w g' t ty cs' fr' d hg2 hu hd hi2]
theorem retP2 {fn : Func} {Q : Ending → World → Prop} {a : Act} {w : World} {p p2 : Tmp} {pw ph qw qh : Int} {v v2 : Value} (g g2 : Nat) (hr : fn.results = #[.cell p 25, .cell p2 25]) (hB : PicB w g pw ph v) (hB2 : PicB w g2 qw qh v2) (hp : a.tmps.getD p undef = .pointer (some ⟨g, 0, none⟩)) (hp2 : a.tmps.getD p2 undef = .pointer (some ⟨g2, 0, none⟩)) (hd : a.defers = [])
    (hR : Q (.returned (.tuple #[.agg #[.int .i64 pw, .int .i64 ph, v], .agg #[.int .i64 qw, .int .i64 qh, v2]])) w) : bodyPost Try.prog fn Q .ret a w :=
  bodyPost_ret (results_cell2_rows hr _ _ g g2 25 _ _ (0, 0) (0, 0) _ hp hB hp2 hB2 Try.underlying25 rfl (infoP _ _ _) (infoP _ _ _)) hd hR
theorem But2.but {R G : Nat} {a w w' : World} (h : But R a w) (k : But2 R G w w') (hG : a.heap.size ≤ G) : But R a w' :=
  ⟨k.os.trans h.os, k.tape.trans h.tape, k.output.trans h.output, Nat.le_trans h.size k.size, fun i hi hr => (k.block i (Nat.lt_of_lt_of_le hi h.size) ⟨hr, by omega⟩).trans (h.block i hi hr)⟩
theorem PicB.setRowOther' {w : World} {g j : Nat} {pw ph : Int} {v : Value} (h : PicB w g pw ph v) (cs : Array Value) (hg : g ≠ j) : PicB (w.setRow j cs) g pw ph v := (heap_setRow_other _ _ _ _ hg).trans h
set_option maxRecDepth 100000 in
set_option maxHeartbeats 4000000 in
theorem l20Pair_any (B R m : Nat) (n0 : Int) (w : World) (h : Rd B w R m) (hm : m ≤ 10000) (hn : n0 ≤ 1000000) (hn0 : 1 ≤ n0) :
    Calls Try.prog 35 #[.pointer (some ⟨R, 0, none⟩), .int .i64 n0] w (PairQ w.heap.size R w) := by
  have hR := h.lt
  obtain ⟨w0, hw0⟩ : ∃ w0, w0 = (w.alloc (.cells #[.int .i64 0, .int .i64 0, .slice none 0 0] 25)).alloc (.cells #[.int .i64 0, .int .i64 0, .slice none 0 0] 25) := ⟨_, rfl⟩
  have HA := Lib.hid (show PicB w0 w.heap.size 0 0 (.slice none 0 0) by rw [hw0]; exact (PicB.new' rfl).alloc _)
  have HZ := Lib.hid (show PicB w0 (w.heap.size + 1) 0 0 (.slice none 0 0) by rw [hw0]; exact PicB.new' (by simp))
  have HR := Lib.hid (show Rd B w0 R m by rw [hw0]; exact (h.alloc _).alloc _); clear h
  have HU := Lib.hid (show But R w w0 by rw [hw0]; exact ((But.refl _ _).alloc _).alloc _)
  have hs0 : w.heap.size + 2 = w0.heap.size := by rw [hw0]; simp
  have HW := Lib.hid hw0; clear hw0
  go_enter Try.func35, Try.ntmps35
  go_wp2_with fail
  rw [← HW.out]; clear HW
  refine (l20Picture_any B R m n0 _ HR.out (by omega) (by omega) (by omega)).mono ?_; rintro e wA ⟨aw, ah, u, an, f, rfl, hSa, han, hr, hU⟩
  have z1 := hU.size
  replace HA := Lib.hid (HA.out.but hU (by omega)); replace HZ := Lib.hid (HZ.out.but hU (by omega)); replace HU := Lib.hid (HU.out.trans hU); replace HR := Lib.hid hr
  have h1 := hSa.one
  have HSa := Lib.hid hSa
  clear hU hr hSa
  have HN := Lib.hid (show PicB (wA.alloc (.cells #[.int .i64 0, .int .i64 0, .slice none 0 0] 25)) wA.heap.size 0 0 (.slice none 0 0) from PicB.new' rfl)
  obtain ⟨w2, hw⟩ : ∃ x, x = (wA.alloc (.cells #[.int .i64 0, .int .i64 0, .slice none 0 0] 25)).setRow wA.heap.size #[.int .i64 aw, .int .i64 ah, u] := ⟨_, rfl⟩
  have HVa := Lib.hid (show PicB w2 wA.heap.size aw ah u by rw [hw]; exact HN.out.setRow _ _ _)
  have hb3 : Below wA.heap.size wA w2 := by rw [hw]; exact below_setRow ((Below.refl _ _).alloc (Nat.le_refl _) _) (Nat.le_refl _) _
  have zw2 : wA.heap.size + 1 = w2.heap.size := by rw [hw]; simp
  have HW := Lib.hid hw; clear hw
  replace HA := Lib.hid (HA.out.below hb3 (by omega)); replace HZ := Lib.hid (HZ.out.below hb3 (by omega)); replace HU := Lib.hid (HU.out.trans (below_but hb3 (Nat.le_refl _))); replace HR := Lib.hid (HR.out.below hb3 (by omega))
  replace HSa := Lib.hid (HSa.out.below hb3 (Nat.le_refl _))
  clear hb3
  go_wp2_with (first | refine storeP wA.heap.size HN.out h1 rfl rfl rfl rfl ?_; rw [← HW.out] | refine loadP _ HVa.out rfl rfl rfl ?_)
  clear HW HN
  refine (l20Next_any B R (m + 1060) (w0.heap.size + 1) wA.heap.size aw ah u an f _ HR.out (by omega) HSa.out (by omega) (by omega) han).mono ?_; rintro e wB ⟨bw, bh, vb, bn, g, rfl, hSb, hbn, hr, hU⟩
  have z3 := hU.size
  replace HA := Lib.hid (HA.out.but hU (by omega)); replace HZ := Lib.hid (HZ.out.but hU (by omega)); replace HU := Lib.hid (HU.out.trans hU); replace HR := Lib.hid hr
  replace HVa := Lib.hid (HVa.out.but hU (by omega))
  replace HSa := Lib.hid (HSa.out.but hU (by omega))
  have h2 := hSb.one
  have HSb := Lib.hid hSb
  clear hU hr hSb
  have HN := Lib.hid (show PicB (wB.alloc (.cells #[.int .i64 0, .int .i64 0, .slice none 0 0] 25)) wB.heap.size 0 0 (.slice none 0 0) from PicB.new' rfl)
  obtain ⟨w4, hw⟩ : ∃ x, x = (wB.alloc (.cells #[.int .i64 0, .int .i64 0, .slice none 0 0] 25)).setRow wB.heap.size #[.int .i64 bw, .int .i64 bh, vb] := ⟨_, rfl⟩
  have HVb := Lib.hid (show PicB w4 wB.heap.size bw bh vb by rw [hw]; exact HN.out.setRow _ _ _)
  have hb3 : Below wB.heap.size wB w4 := by rw [hw]; exact below_setRow ((Below.refl _ _).alloc (Nat.le_refl _) _) (Nat.le_refl _) _
  have zw4 : wB.heap.size + 1 = w4.heap.size := by rw [hw]; simp
  have HW := Lib.hid hw; clear hw
  replace HA := Lib.hid (HA.out.below hb3 (by omega)); replace HZ := Lib.hid (HZ.out.below hb3 (by omega)); replace HU := Lib.hid (HU.out.trans (below_but hb3 (Nat.le_refl _))); replace HR := Lib.hid (HR.out.below hb3 (by omega))
  replace HSa := Lib.hid (HSa.out.below hb3 (by omega)); replace HSb := Lib.hid (HSb.out.below hb3 (Nat.le_refl _)); replace HVa := Lib.hid (HVa.out.below hb3 (by omega))
  clear hb3
  go_wp2_with (first | refine storeP wB.heap.size HN.out h2 rfl rfl rfl rfl ?_; rw [← HW.out] | refine loadP _ HVa.out rfl rfl rfl ?_)
  clear HW HN
  refine (odd_any B R (m + 1060 + 32000 + 1060) n0 _ HR.out (by omega) (by omega) (by omega)).mono ?_; rintro e w5 ⟨k5, rfl, hr, ho⟩
  have z5 := ho.but.size
  replace HR := Lib.hid hr
  replace HA := Lib.hid (HA.out.only ho (by omega)); replace HZ := Lib.hid (HZ.out.only ho (by omega)); replace HU := Lib.hid (HU.out.trans ho.but)
  replace HVa := Lib.hid (HVa.out.only ho (by omega)); replace HVb := Lib.hid (HVb.out.only ho (by omega))
  replace HSa := Lib.hid (HSa.out.only ho (by omega)); replace HSb := Lib.hid (HSb.out.only ho (by omega))
  clear hr ho
  skip
  cases k5
  · skip
    go_wp2_with fail
    refine wp_region_lo 3 (fun _ w' => SX R w.heap.size aw ah u w5 w') (fun w1 w2 => RX R w.heap.size aw ah u w1 w2) [(fun _ v => v = .agg #[.int .i64 aw, .int .i64 ah, u]), (fun _ v => v = .agg #[.int .i64 bw, .int .i64 bh, vb]), (fun w' _ => PicB w' w.heap.size aw ah u)] (by kernel_rfl) (by kernel_rfl) ⟨⟨rfl, rfl, rfl, Nat.le_refl _, fun _ _ _ => rfl⟩, .inl HA.out⟩ ?_ ?_ ?_
    · intro V hV w1 w2 v hv hr
      simp only [List.mem_cons, List.not_mem_nil, or_false] at hV
      rcases hV with rfl | rfl | rfl
      · exact hv
      · exact hv
      · exact hr.2.elim (fun e => e.trans hv) id
    · refine ⟨?_, ?_, ?_, trivial⟩
      · intro vs k1 w1 hk1 hS1 hd fb hb K hK
        replace hb : fb = _ := hb
        subst hb
        refine wp_load_row _ _ rfl (wA.heap.size) rfl _ _ (0, 0) _ (HVa.out.but2 hS1.1 (by omega)) Try.underlying25 rfl (infoP _ _ _) ?_
        exact hK.out _ _ hS1 (RX.refl _ _ _ _ _ _) rfl
      · intro vs k1 w1 hk1 hS1 hd fb hb K hK
        replace hb : fb = _ := hb
        subst hb
        refine wp_load_row _ _ rfl (wB.heap.size) rfl _ _ (0, 0) _ (HVb.out.but2 hS1.1 (by omega)) Try.underlying25 rfl (infoP _ _ _) ?_
        exact hK.out _ _ hS1 (RX.refl _ _ _ _ _ _) rfl
      · intro vs k1 w1 hk1 hS1 hd fb hb K hK
        obtain ⟨d0, _, _⟩ := hd
        replace hb : fb = Act.put (Act.put (_) (some 19) (vs 0)) (some 19) (vs 0) := hb
        have e0 : vs 0 = .agg #[.int .i64 aw, .int .i64 ah, u] := d0
        rw [e0] at hb; clear e0 d0
        subst hb
        have hG : ∃ a b v, PicB w1 w.heap.size a b v := hS1.2.elim (fun h => ⟨_, _, _, h⟩) (fun h => ⟨_, _, _, h⟩)
        obtain ⟨ga, gb, gv, hG⟩ := hG
        refine wp_store_row _ _ _ rfl (w.heap.size) _ rfl rfl _ _ hG (infoP _ _ _) rfl (pic_one h1) ?_
        exact hK.out _ _ (hS1.rx (RX.store hG)) (RX.store hG) (hG.setRow _ _ _)
    · intro vs w1 hS1 hd fb hb
      obtain ⟨d0, d1, d2, _⟩ := hd
      replace hb : fb = Act.put (Act.put (Act.put (_) (some 19) (vs 0)) (some 20) (vs 1)) none (vs 2) := hb
      have e0 : vs 0 = .agg #[.int .i64 aw, .int .i64 ah, u] := d0
      rw [e0] at hb; clear e0 d0
      have e1 : vs 1 = .agg #[.int .i64 bw, .int .i64 bh, vb] := d1
      rw [e1] at hb; clear e1 d1
      subst hb
      simp only [List.drop_succ_cons, List.drop_zero, Act.put, List.setIfInBounds_toArray, List.set_cons_succ, List.set_cons_zero]
      have hA : PicB w1 w.heap.size aw ah u := d2
      clear d2
      have zz := hS1.1.size
      have hZ := HZ.out.but2 hS1.1 (by omega)
      have HF := Lib.hid (show PairQ w.heap.size R w (.returned (.tuple #[.agg #[.int .i64 aw, .int .i64 ah, u], .agg #[.int .i64 bw, .int .i64 bh, vb]])) (w1.setRow (w.heap.size + 1) #[.int .i64 bw, .int .i64 bh, vb]) from
        ⟨aw, ah, u, an, f, _, _, _, bn, g, rfl, ⟨((HSa.out.kept (fun g h1 h2 => hS1.1.block g (by omega) (by omega))).setRow (.inl (by omega)) _).mono (by omega) (by simp; omega), by omega⟩, ⟨((HSb.out.kept (fun g h1 h2 => hS1.1.block g (by omega) (by omega))).setRow (.inl (by omega)) _).mono (by omega) (by simp; omega), by omega⟩, (But2.but HU.out hS1.1 (Nat.le_refl _)).setRow (by omega) _⟩)
      clear HU HSa HSb HR hS1
      go_wp2_with (refine storeP (w.heap.size + 1) hZ h2 rfl rfl rfl rfl ?_)
      exact retP2 w.heap.size (w.heap.size + 1) Try.results35 (hA.setRowOther' _ (by omega)) (hZ.setRow _ _ _) rfl rfl rfl HF.out
  · skip
    go_wp2_with fail
    refine (l20Picture_any B R _ 2 _ HR.out (by omega) (by omega) (by omega)).mono ?_; rintro e w6 ⟨cw, ch, x, cn, gc, rfl, hSc, hcn, hr, hU⟩
    have z6 := hU.size
    have h3 := hSc.one
    have hVb := HVb.out.but hU (by omega)
    have zb := hVb.lt
    replace HA := Lib.hid ((HA.out.but hU (by omega)).setRowOther' #[.int .i64 cw, .int .i64 ch, x] (show w.heap.size ≠ wB.heap.size by omega)); replace HZ := Lib.hid ((HZ.out.but hU (by omega)).setRowOther' #[.int .i64 cw, .int .i64 ch, x] (show w.heap.size + 1 ≠ wB.heap.size by omega))
    replace HU := Lib.hid ((HU.out.trans hU).setRow (show w.heap.size ≤ wB.heap.size by omega) #[.int .i64 cw, .int .i64 ch, x])
    replace HVa := Lib.hid ((HVa.out.but hU (by omega)).setRowOther' #[.int .i64 cw, .int .i64 ch, x] (show wA.heap.size ≠ wB.heap.size by omega))
    replace HVb := Lib.hid (hVb.setRow cw ch x)
    replace HSa := Lib.hid ((HSa.out.but hU (by omega)).setRow (.inr (show wA.heap.size ≤ wB.heap.size by omega)) #[.int .i64 cw, .int .i64 ch, x])
    replace HSb := Lib.hid (hSc.setRow (.inl (show wB.heap.size < w5.heap.size + 1 by omega)) #[.int .i64 cw, .int .i64 ch, x])
    obtain ⟨w7, hw⟩ : ∃ y, y = w6.setRow wB.heap.size #[.int .i64 cw, .int .i64 ch, x] := ⟨_, rfl⟩
    have z7 : w7.heap.size = w6.heap.size := by rw [hw]; simp
    have HW := Lib.hid hw
    rw [← hw] at HA HZ HU HVa HVb HSa HSb
    clear hw hU hr hSc
    go_upto_region 5 with (refine storeP wB.heap.size hVb h3 rfl rfl rfl rfl ?_; rw [← HW.out])
    clear HW hVb
    refine wp_region_lo 3 (fun _ w' => SX R w.heap.size aw ah u w7 w') (fun w1 w2 => RX R w.heap.size aw ah u w1 w2) [(fun _ v => v = .agg #[.int .i64 aw, .int .i64 ah, u]), (fun _ v => v = .agg #[.int .i64 cw, .int .i64 ch, x]), (fun w' _ => PicB w' w.heap.size aw ah u)] (by kernel_rfl) (by kernel_rfl) ⟨⟨rfl, rfl, rfl, Nat.le_refl _, fun _ _ _ => rfl⟩, .inl HA.out⟩ ?_ ?_ ?_
    · intro V hV w1 w2 v hv hr
      simp only [List.mem_cons, List.not_mem_nil, or_false] at hV
      rcases hV with rfl | rfl | rfl
      · exact hv
      · exact hv
      · exact hr.2.elim (fun e => e.trans hv) id
    · refine ⟨?_, ?_, ?_, trivial⟩
      · intro vs k1 w1 hk1 hS1 hd fb hb K hK
        replace hb : fb = _ := hb
        subst hb
        refine wp_load_row _ _ rfl (wA.heap.size) rfl _ _ (0, 0) _ (HVa.out.but2 hS1.1 (by omega)) Try.underlying25 rfl (infoP _ _ _) ?_
        exact hK.out _ _ hS1 (RX.refl _ _ _ _ _ _) rfl
      · intro vs k1 w1 hk1 hS1 hd fb hb K hK
        replace hb : fb = _ := hb
        subst hb
        refine wp_load_row _ _ rfl (wB.heap.size) rfl _ _ (0, 0) _ (HVb.out.but2 hS1.1 (by omega)) Try.underlying25 rfl (infoP _ _ _) ?_
        exact hK.out _ _ hS1 (RX.refl _ _ _ _ _ _) rfl
      · intro vs k1 w1 hk1 hS1 hd fb hb K hK
        obtain ⟨d0, _, _⟩ := hd
        replace hb : fb = Act.put (Act.put (_) (some 19) (vs 0)) (some 19) (vs 0) := hb
        have e0 : vs 0 = .agg #[.int .i64 aw, .int .i64 ah, u] := d0
        rw [e0] at hb; clear e0 d0
        subst hb
        have hG : ∃ a b v, PicB w1 w.heap.size a b v := hS1.2.elim (fun h => ⟨_, _, _, h⟩) (fun h => ⟨_, _, _, h⟩)
        obtain ⟨ga, gb, gv, hG⟩ := hG
        refine wp_store_row _ _ _ rfl (w.heap.size) _ rfl rfl _ _ hG (infoP _ _ _) rfl (pic_one h1) ?_
        exact hK.out _ _ (hS1.rx (RX.store hG)) (RX.store hG) (hG.setRow _ _ _)
    · intro vs w1 hS1 hd fb hb
      obtain ⟨d0, d1, d2, _⟩ := hd
      replace hb : fb = Act.put (Act.put (Act.put (_) (some 19) (vs 0)) (some 20) (vs 1)) none (vs 2) := hb
      have e0 : vs 0 = .agg #[.int .i64 aw, .int .i64 ah, u] := d0
      rw [e0] at hb; clear e0 d0
      have e1 : vs 1 = .agg #[.int .i64 cw, .int .i64 ch, x] := d1
      rw [e1] at hb; clear e1 d1
      subst hb
      simp only [List.drop_succ_cons, List.drop_zero, Act.put, List.setIfInBounds_toArray, List.set_cons_succ, List.set_cons_zero]
      have hA : PicB w1 w.heap.size aw ah u := d2
      clear d2
      have zz := hS1.1.size
      have hZ := HZ.out.but2 hS1.1 (by omega)
      have HF := Lib.hid (show PairQ w.heap.size R w (.returned (.tuple #[.agg #[.int .i64 aw, .int .i64 ah, u], .agg #[.int .i64 cw, .int .i64 ch, x]])) (w1.setRow (w.heap.size + 1) #[.int .i64 cw, .int .i64 ch, x]) from
        ⟨aw, ah, u, an, f, _, _, _, cn, gc, rfl, ⟨((HSa.out.kept (fun g h1 h2 => hS1.1.block g (by omega) (by omega))).setRow (.inl (by omega)) _).mono (by omega) (by simp; omega), by omega⟩, ⟨((HSb.out.kept (fun g h1 h2 => hS1.1.block g (by omega) (by omega))).setRow (.inl (by omega)) _).mono (by omega) (by simp; omega), by omega⟩, (But2.but HU.out hS1.1 (Nat.le_refl _)).setRow (by omega) _⟩)
      clear HU HSa HSb HR hS1
      go_wp2_with (refine storeP (w.heap.size + 1) hZ h3 rfl rfl rfl rfl ?_)
      exact retP2 w.heap.size (w.heap.size + 1) Try.results35 (hA.setRowOther' _ (by omega)) (hZ.setRow _ _ _) rfl rfl rfl HF.out
/-- Two pictures have been drawn. -/
def PairD (w : World) (e : Ending) (w' : World) : Prop :=
  ∃ (aw ah : Int) (u : Value) (an : Nat) (f : Nat → Int) (bw bh : Int) (v : Value) (bn : Nat) (g : Nat → Int), e = .returned (.tuple #[.agg #[.int .i64 aw, .int .i64 ah, u], .agg #[.int .i64 bw, .int .i64 bh, v]]) ∧ (Sn .i64 w.heap.size w'.heap.size w' u an f ∧ an ≤ 1024) ∧ (Sn .i64 w.heap.size w'.heap.size w' v bn g ∧ bn ≤ 1024) ∧ Below w.heap.size w w'
set_option maxRecDepth 100000 in
set_option maxHeartbeats 2000000 in
theorem DrawAbsoluteDifference_any (v : Value) (n : Nat) (c : Nat → Int) (w : World) (h : SlB w.heap.size w v n c) (hn : n ≤ 1000000000000) :
    Calls Try.prog 11 #[v] w (PairD w) := by
  obtain ⟨w0, hw0⟩ : ∃ w0, w0 = (w.alloc (.cells #[.int .i64 0, .int .i64 0, .slice none 0 0] 25)).alloc (.cells #[.int .i64 0, .int .i64 0, .slice none 0 0] 25) := ⟨_, rfl⟩
  have HA := Lib.hid (show PicB w0 w.heap.size 0 0 (.slice none 0 0) by rw [hw0]; exact (PicB.new' rfl).alloc _)
  have HZ := Lib.hid (show PicB w0 (w.heap.size + 1) 0 0 (.slice none 0 0) by rw [hw0]; exact PicB.new' (by simp))
  have hbel : Below w.heap.size w w0 := by rw [hw0]; exact ((Below.refl _ _).alloc (Nat.le_refl _) _).alloc (by simp) _
  have HS := Lib.hid (h.kept (fun g hg => hbel.block g hg) : SlB w.heap.size w0 v n c)
  have hs0 : w.heap.size + 2 = w0.heap.size := by rw [hw0]; simp
  have HW := Lib.hid hw0; clear hw0 h
  go_enter Try.func11, Try.ntmps11
  go_wp2_with fail
  rw [← HW.out]; clear HW
  refine (l20Open_low w.heap.size v n c _ (by omega) HS.out hn).mono ?_; rintro e w1 ⟨rfl, hr1, hb1, hz1⟩
  have HB := Lib.hid (hbel.trans (hb1.mono (by omega)))
  have HR := Lib.hid hr1
  have hl1 := hr1.lt
  replace HA := Lib.hid (HA.out.below hb1 (by omega)); replace HZ := Lib.hid (HZ.out.below hb1 (by omega))
  clear hbel hr1 hb1 HS
  go_wp2_with fail
  refine (l20Pair_any _ _ 0 6 _ HR.out (by omega) (by omega) (by omega)).mono ?_; rintro e w2 ⟨aw, ah, u, an, f, bw, bh, x, bn, g, rfl, ⟨hSa, han⟩, ⟨hSb, hbn⟩, hU⟩
  have z2 := hU.size
  have h1 := hSa.one
  have h2 := hSb.one
  have hA := HA.out.but hU (by omega)
  have hZ := HZ.out.but hU (by omega)
  have hB := HB.out.trans (hU.below (B := w.heap.size) (by omega) (by omega))
  have hZ2 : PicB (w2.setRow w.heap.size #[.int .i64 aw, .int .i64 ah, u]) (w.heap.size + 1) 0 0 (.slice none 0 0) := hZ.setRowOther' _ (by omega)
  have HF := Lib.hid (show PairD w (.returned (.tuple #[.agg #[.int .i64 aw, .int .i64 ah, u], .agg #[.int .i64 bw, .int .i64 bh, x]])) ((w2.setRow w.heap.size #[.int .i64 aw, .int .i64 ah, u]).setRow (w.heap.size + 1) #[.int .i64 bw, .int .i64 bh, x]) from
    ⟨aw, ah, u, an, f, bw, bh, x, bn, g, rfl, ⟨((hSa.setRow (.inl (by omega)) _).setRow (.inl (by omega)) _).mono (by omega) (by simp), han⟩, ⟨((hSb.setRow (.inl (by omega)) _).setRow (.inl (by omega)) _).mono (by omega) (by simp), hbn⟩, below_setRow (below_setRow hB (Nat.le_refl _) _) (by omega) _⟩)
  clear HA HZ HB HR hSa hSb hU hB
  go_wp2_with (first | refine storeP w.heap.size hA h1 rfl rfl rfl rfl ?_ | refine storeP (w.heap.size + 1) hZ2 h2 rfl rfl rfl rfl ?_)
  exact retP2 w.heap.size (w.heap.size + 1) Try.results11 ((hA.setRow _ _ _).setRowOther' _ (by omega)) (hZ2.setRow _ _ _) rfl rfl rfl HF.out
set_option maxRecDepth 100000 in
set_option maxHeartbeats 2000000 in
theorem DrawSquaredDifference_any (v : Value) (n : Nat) (c : Nat → Int) (w : World) (h : SlB w.heap.size w v n c) (hn : n ≤ 1000000000000) :
    Calls Try.prog 28 #[v] w (PairD w) := by
  obtain ⟨w0, hw0⟩ : ∃ w0, w0 = (w.alloc (.cells #[.int .i64 0, .int .i64 0, .slice none 0 0] 25)).alloc (.cells #[.int .i64 0, .int .i64 0, .slice none 0 0] 25) := ⟨_, rfl⟩
  have HA := Lib.hid (show PicB w0 w.heap.size 0 0 (.slice none 0 0) by rw [hw0]; exact (PicB.new' rfl).alloc _)
  have HZ := Lib.hid (show PicB w0 (w.heap.size + 1) 0 0 (.slice none 0 0) by rw [hw0]; exact PicB.new' (by simp))
  have hbel : Below w.heap.size w w0 := by rw [hw0]; exact ((Below.refl _ _).alloc (Nat.le_refl _) _).alloc (by simp) _
  have HS := Lib.hid (h.kept (fun g hg => hbel.block g hg) : SlB w.heap.size w0 v n c)
  have hs0 : w.heap.size + 2 = w0.heap.size := by rw [hw0]; simp
  have HW := Lib.hid hw0; clear hw0 h
  go_enter Try.func28, Try.ntmps28
  go_wp2_with fail
  rw [← HW.out]; clear HW
  refine (l20Open_low w.heap.size v n c _ (by omega) HS.out hn).mono ?_; rintro e w1 ⟨rfl, hr1, hb1, hz1⟩
  have HB := Lib.hid (hbel.trans (hb1.mono (by omega)))
  have HR := Lib.hid hr1
  have hl1 := hr1.lt
  replace HA := Lib.hid (HA.out.below hb1 (by omega)); replace HZ := Lib.hid (HZ.out.below hb1 (by omega))
  clear hbel hr1 hb1 HS
  go_wp2_with fail
  refine (l20Pair_any _ _ 0 6 _ HR.out (by omega) (by omega) (by omega)).mono ?_; rintro e w2 ⟨aw, ah, u, an, f, bw, bh, x, bn, g, rfl, ⟨hSa, han⟩, ⟨hSb, hbn⟩, hU⟩
  have z2 := hU.size
  have h1 := hSa.one
  have h2 := hSb.one
  have hA := HA.out.but hU (by omega)
  have hZ := HZ.out.but hU (by omega)
  have hB := HB.out.trans (hU.below (B := w.heap.size) (by omega) (by omega))
  have hZ2 : PicB (w2.setRow w.heap.size #[.int .i64 aw, .int .i64 ah, u]) (w.heap.size + 1) 0 0 (.slice none 0 0) := hZ.setRowOther' _ (by omega)
  have HF := Lib.hid (show PairD w (.returned (.tuple #[.agg #[.int .i64 aw, .int .i64 ah, u], .agg #[.int .i64 bw, .int .i64 bh, x]])) ((w2.setRow w.heap.size #[.int .i64 aw, .int .i64 ah, u]).setRow (w.heap.size + 1) #[.int .i64 bw, .int .i64 bh, x]) from
    ⟨aw, ah, u, an, f, bw, bh, x, bn, g, rfl, ⟨((hSa.setRow (.inl (by omega)) _).setRow (.inl (by omega)) _).mono (by omega) (by simp), han⟩, ⟨((hSb.setRow (.inl (by omega)) _).setRow (.inl (by omega)) _).mono (by omega) (by simp), hbn⟩, below_setRow (below_setRow hB (Nat.le_refl _) _) (by omega) _⟩)
  clear HA HZ HB HR hSa hSb hU hB
  go_wp2_with (first | refine storeP w.heap.size hA h1 rfl rfl rfl rfl ?_ | refine storeP (w.heap.size + 1) hZ2 h2 rfl rfl rfl rfl ?_)
  exact retP2 w.heap.size (w.heap.size + 1) Try.results28 ((hA.setRow _ _ _).setRowOther' _ (by omega)) (hZ2.setRow _ _ _) rfl rfl rfl HF.out
end Go.Proofs.Ytinmfeflbaeodaa
