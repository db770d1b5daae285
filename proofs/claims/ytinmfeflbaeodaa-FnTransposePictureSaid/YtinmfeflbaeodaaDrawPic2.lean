/- Drawing pictures, of which some are invalid. -/
import Derived.Test.YtinmfeflbaeodaaDrawPic
namespace Go.Proofs.Ytinmfeflbaeodaa
open Go.RowKit

theorem Sn.only {k : IntKind} {lo hi R : Nat} {w w' : World} {v : Value} {n : Nat} {b : Nat → Int} (h : Sn k lo hi w v n b) (ho : Only R w w') (hd : R < lo) : Sn k lo hi w' v n b := h.kept fun g h1 h2 => ho.block g (by omega)
theorem Sn.alloc {k : IntKind} {lo hi : Nat} {w : World} {v : Value} {n : Nat} {b : Nat → Int} (h : Sn k lo hi w v n b) (hh : hi ≤ w.heap.size) (o : Obj) : Sn k lo hi (w.alloc o) v n b := h.kept fun g _ hg => Below.heap_alloc w o g (by omega)
theorem Sn.setCell {k : IntKind} {lo hi : Nat} {w : World} {v : Value} {n : Nat} {b : Nat → Int} (h : Sn k lo hi w v n b) {p : Addr} (hp : p.block < lo ∨ hi ≤ p.block) (u : Value) : Sn k lo hi (w.setCell p u) v n b := h.kept fun g h1 h2 => heap_setCell_other w p g u (by omega)
theorem Sn.setRow {k : IntKind} {lo hi : Nat} {w : World} {v : Value} {n : Nat} {b : Nat → Int} (h : Sn k lo hi w v n b) {g' : Nat} (hp : g' < lo ∨ hi ≤ g') (cs : Array Value) : Sn k lo hi (w.setRow g' cs) v n b := h.kept fun g h1 h2 => heap_setRow_other w g' cs g (by omega)
theorem PicB.set0 {w : World} {g : Nat} {pw ph : Int} {v : Value} (h : PicB w g pw ph v) (x : Int) : PicB (w.setCell ⟨g, 0, none⟩ (.int .i64 x)) g x ph v := heap_setCell_same w g 0 _ _ _ h
theorem PicB.set1 {w : World} {g : Nat} {pw ph : Int} {v : Value} (h : PicB w g pw ph v) (x : Int) : PicB (w.setCell ⟨g, 1, none⟩ (.int .i64 x)) g pw x v := heap_setCell_same w g 1 _ _ _ h
/-- A picture has been drawn; it lies in new memory. -/
def DrawnP (B R m : Nat) (w : World) (e : Ending) (w' : World) : Prop :=
  ∃ (pw ph : Int) (v : Value) (n : Nat) (f : Nat → Int), e = .returned (.agg #[.int .i64 pw, .int .i64 ph, v]) ∧ Sn .i64 (w.heap.size + 1) w'.heap.size w' v n f ∧ n ≤ 1024 ∧ Rd B w' R (m + 1060) ∧ But R w w'
theorem DrawnP.mk' {B R m lo hi n : Nat} {w w1 : World} {pw ph : Int} {v : Value} {f : Nat → Int} (hS : Sn .i64 lo hi w1 v n f) (hn : n ≤ 1024) (hR : Rd B w1 R (m + 1060)) (hU : But R w w1) (hlo : w.heap.size < lo) (hhi : hi ≤ w1.heap.size) (hRw : R < w.heap.size) :
    DrawnP B R m w (.returned (.agg #[.int .i64 pw, .int .i64 ph, v])) (w1.setRow w.heap.size #[.int .i64 pw, .int .i64 ph, v]) :=
  ⟨pw, ph, v, n, f, rfl, (hS.setRow (.inl hlo) _).mono (by omega) (by simpa using hhi), hn, hR.setRow hRw _, hU.setRow (Nat.le_refl _) _⟩
theorem Sn.nil {w1 : World} (lo hi : Nat) (f : Nat → Int) : Sn .i64 lo hi w1 (.slice none 0 0) 0 f := ⟨_, _, rfl, Nat.le_refl _, fun h => absurd h (by omega)⟩
theorem Sn.tail {lo hi gp cp n : Nat} {w : World} {f : Nat → Int} (h : Sn .i64 lo hi w (.slice (some ⟨gp, 0, none⟩) n cp) n f) (h0 : 0 < n) : Sn .i64 lo hi w (.slice (some ⟨gp, 1, none⟩) (n - 1) (cp - 1)) (n - 1) (fun i => f (i + 1)) := by
  obtain ⟨a', cap', e', hn', hcl⟩ := h
  obtain ⟨g', off', e'', h1, h2, hcl⟩ := hcl h0
  cases e'
  cases e''
  refine ⟨_, _, rfl, by omega, fun _ => ⟨gp, 1, rfl, h1, h2, fun i hi => ?_⟩⟩
  have hc := hcl (i + 1) (by omega)
  rw [Nat.zero_add] at hc
  rw [Nat.add_comm 1 i]
  exact hc
theorem Sn.put {lo hi gp cp n : Nat} {w : World} {f : Nat → Int} (h : Sn .i64 lo hi w (.slice (some ⟨gp, 0, none⟩) n cp) n f) (h0 : 0 < n) (k : Nat) (x : Int) : Sn .i64 lo hi (w.setCell ⟨gp, k, none⟩ (.int .i64 x)) (.slice (some ⟨gp, 0, none⟩) n cp) n (fun i => if i = k then x else f i) := by
  obtain ⟨a', cap', e', hn', hcl⟩ := h
  obtain ⟨g', off', e'', h1, h2, hcl⟩ := hcl h0
  cases e'
  cases e''
  refine ⟨_, _, rfl, hn', fun _ => ⟨gp, 0, rfl, h1, h2, fun i hi => ?_⟩⟩
  rw [Nat.zero_add]
  have hc := hcl i hi
  rw [Nat.zero_add] at hc
  refine ⟨?_, by rw [World.frozen?_setCell]; exact hc.2⟩
  by_cases e : i = k
  · subst e
    dsimp only
    rw [if_pos rfl]
    exact World.cell?_setCell_same' _ _ _ (by rw [hc.1]; rfl)
  · dsimp only
    rw [if_neg e, World.cell?_setCell_other _ _ _ _ (fun h => e (by cases h; rfl))]
    exact hc.1
set_option maxRecDepth 100000 in
set_option maxHeartbeats 4000000 in
theorem l20Picture_any (B R m : Nat) (n0 : Int) (w : World) (h : Rd B w R m) (hm : m ≤ 90000) (hn : n0 ≤ 1000000) (hn0 : 1 ≤ n0) :
    Calls Try.prog 47 #[.pointer (some ⟨R, 0, none⟩), .int .i64 n0] w (DrawnP B R m w) := by
  have hR := h.lt
  obtain ⟨w0, hw0⟩ : ∃ w0, w0 = w.alloc (.cells #[.int .i64 0, .int .i64 0, .slice none 0 0] 25) := ⟨_, rfl⟩
  have HZ := Lib.hid (show PicB w0 w.heap.size 0 0 (.slice none 0 0) by rw [hw0]; exact PicB.new' rfl)
  have HR := Lib.hid (show Rd B w0 R m by rw [hw0]; exact h.alloc _); clear h
  have HU := Lib.hid (show But R w w0 by rw [hw0]; exact (But.refl _ _).alloc _)
  have hs0 : w.heap.size + 1 = w0.heap.size := by rw [hw0]; simp
  have HW := Lib.hid hw0; clear hw0
  go_enter Try.func47, Try.ntmps47
  go_wp2_with fail
  rw [← HW.out]; clear HW
  refine (l20Size_any B R (m + 0) _ HR.out (by omega)).mono ?_; rintro e w1 ⟨s1, rfl, a1, b1, hr, hu⟩
  have z1 := hu.size
  replace HZ := Lib.hid (HZ.out.but hu (by omega)); replace HR := Lib.hid hr; replace HU := Lib.hid (HU.out.trans hu); clear hr hu
  go_wp2_with fail
  refine (l20Size_any B R (m + 1) _ HR.out (by omega)).mono ?_; rintro e w2 ⟨s2, rfl, a2, b2, hr, hu⟩
  have z2 := hu.size
  replace HZ := Lib.hid (HZ.out.but hu (by omega)); replace HR := Lib.hid hr; replace HU := Lib.hid (HU.out.trans hu); clear hr hu
  go_wp2_with fail
  refine (l20Pic_any B R (m + 2) s1 s2 _ HR.out (by omega) (by omega) (by omega)).mono ?_; rintro e w3 ⟨v0, f, rfl, hown, hr, hu⟩
  have z3 := hu.size
  replace HZ := Lib.hid (HZ.out.but hu (by omega)); replace HR := Lib.hid hr; replace HU := Lib.hid (HU.out.trans hu); clear hr hu
  obtain ⟨n, hn⟩ : ∃ n, s2 * s1 = n := ⟨_, rfl⟩
  rw [hn] at hown
  have hn1 : 64 ≤ n := by rw [← hn]; exact Nat.mul_le_mul (by omega : 8 ≤ s2) (by omega : 8 ≤ s1)
  have hn2 : n ≤ 1024 := by rw [← hn]; exact Nat.mul_le_mul (by omega : s2 ≤ 32) (by omega : s1 ≤ 32)
  clear hn
  obtain ⟨gp, cp, rfl, hcap, hg1, hg2, hcell⟩ := hown.form (by omega)
  have HS := Lib.hid hown.sn
  clear hown hcell
  have HN := Lib.hid (show PicB (w3.alloc (.cells #[.int .i64 0, .int .i64 0, .slice none 0 0] 25)) w3.heap.size 0 0 (.slice none 0 0) from PicB.new' rfl)
  obtain ⟨w4, hw4⟩ : ∃ w4, w4 = (w3.alloc (.cells #[.int .i64 0, .int .i64 0, .slice none 0 0] 25)).setRow w3.heap.size #[.int .i64 (s1 : Int), .int .i64 (s2 : Int), .slice (some ⟨gp, 0, none⟩) n cp] := ⟨_, rfl⟩
  have HQ := Lib.hid (show PicB w4 w3.heap.size (s1 : Int) (s2 : Int) (.slice (some ⟨gp, 0, none⟩) n cp) by rw [hw4]; exact HN.out.setRow _ _ _)
  replace HZ := Lib.hid (show PicB w4 w.heap.size 0 0 (.slice none 0 0) by rw [hw4]; exact (HZ.out.alloc _).setRowOther _ _ (by omega))
  replace HS := Lib.hid (show Sn .i64 w2.heap.size w3.heap.size w4 (.slice (some ⟨gp, 0, none⟩) n cp) n f by rw [hw4]; exact (HS.out.alloc (Nat.le_refl _) _).setRow (.inr (Nat.le_refl _)) _)
  replace HR := Lib.hid (show Rd B w4 R (m + 1031 + 0) by rw [hw4]; exact ((HR.out.alloc _).setRow (by omega) _).mono (by omega))
  replace HU := Lib.hid (show But R w w4 by rw [hw4]; exact (HU.out.alloc _).setRow (by omega) _)
  have z4 : w3.heap.size + 1 = w4.heap.size := by rw [hw4]; simp
  have HW := Lib.hid hw4; clear hw4
  obtain ⟨G, hG⟩ : ∃ G, w3.heap.size = G := ⟨_, rfl⟩
  have HG := Lib.hid hG
  rw [hG] at HQ HS z4 hg2
  have hG1 : w.heap.size + 1 ≤ G := by omega
  have hgp : w.heap.size < gp := by omega
  obtain ⟨lo, hlo⟩ : ∃ lo, w2.heap.size = lo := ⟨_, rfl⟩
  rw [hlo] at HS
  have hlo1 : w.heap.size < lo := by omega
  have hlo2 : lo ≤ gp := by omega
  clear hlo hG
  go_wp2_with (refine storeP w3.heap.size HN.out rfl rfl rfl rfl rfl ?_; rw [← HW.out, HG.out])
  clear HW HN HG z1 z2 z3 hs0 hg1
  refine (odd_any _ _ (m + 1031 + 0) n0 _ HR.out (by omega) (by omega) (by omega)).mono ?_; rintro e w5 ⟨k5, rfl, hr, ho⟩
  replace HR := Lib.hid hr; clear hr
  replace HU := Lib.hid (HU.out.trans ho.but)
  have z5 : w4.heap.size = w5.heap.size := by have := ho.size; simpa using this.symm
  replace HZ := Lib.hid (HZ.out.only ho (by omega))
  replace HQ := Lib.hid (HQ.out.only ho (by omega))
  replace HS := Lib.hid (HS.out.only ho (by omega))
  clear ho
  cases k5
  · skip
    have hz := HZ.out; have hq := HQ.out
    have HF := Lib.hid (DrawnP.mk' (B := B) (R := R) (m := m) (w := w) (pw := (s1 : Int)) (ph := (s2 : Int)) HS.out (by omega) (HR.out.mono (by omega)) HU.out (by omega) (by omega) hR)
    go_wp2_with (first | refine loadP G hq rfl rfl rfl ?_ | refine storeP w.heap.size hz rfl rfl rfl rfl rfl ?_)
    exact retP w.heap.size Try.results47 (hz.setRow _ _ _) rfl rfl HF.out
  · skip
    go_wp2_with fail
    refine (pick_any _ _ (m + 1031 + 1) 5 _ HR.out (by omega) (by omega)).mono ?_; rintro e w6 ⟨k6, rfl, p6, q6, hr, ho⟩
    replace HR := Lib.hid hr; clear hr
    replace HU := Lib.hid (HU.out.trans ho.but)
    have z6 : w5.heap.size = w6.heap.size := by have := ho.size; simpa using this.symm
    replace HZ := Lib.hid (HZ.out.only ho (by omega))
    replace HQ := Lib.hid (HQ.out.only ho (by omega))
    replace HS := Lib.hid (HS.out.only ho (by omega))
    clear ho
    by_cases c0 : k6 = 0
    · subst c0
      go_wp2_with fail
      refine (pick_any _ _ (m + 1031 + 2) 5 _ (HR.out.alloc _) (by omega) (by omega)).mono ?_; rintro e w7 ⟨k7, rfl, p7, q7, hr, ho⟩
      replace HR := Lib.hid hr; clear hr
      replace HU := Lib.hid ((HU.out.alloc _).trans ho.but)
      have z7 : w6.heap.size + 1 = w7.heap.size := by have := ho.size; simpa using this.symm
      replace HZ := Lib.hid ((HZ.out.alloc _).only ho (by omega))
      replace HQ := Lib.hid ((HQ.out.alloc _).only ho (by omega))
      replace HS := Lib.hid ((HS.out.alloc (by omega) _).only ho (by omega))
      obtain ⟨j7, rfl⟩ := Int.eq_ofNat_of_zero_le p7
      have hj7 : j7 < 5 := by omega
      have hc7 := lit_cell [0, 7, 12, 40, -8] ((ho.block w6.heap.size (by omega)).trans (heap_alloc_new w6 _)) j7 hj7
      generalize pickL [0, 7, 12, 40, -8] j7 = v7 at *
      clear ho
      have c1 := HQ.out.c0; have f1 := HQ.out.fr 0
      go_upto_region 14 with fail
      replace HQ := Lib.hid (HQ.out.set0 v7)
      replace HZ := Lib.hid (HZ.out.other (g' := G) (k := 0) (x := .int .i64 v7) (by omega))
      replace HS := Lib.hid (HS.out.setCell (p := ⟨G, 0, none⟩) (.inr (by simp)) (.int .i64 v7))
      replace HR := Lib.hid (HR.out.setCell (p := ⟨G, 0, none⟩) (by simp; omega) (.int .i64 v7))
      replace HU := Lib.hid (HU.out.setCell (p := ⟨G, 0, none⟩) (by simp; omega) (.int .i64 v7))
      clear c1 f1
      have hz := HZ.out; have hq := HQ.out
      have HF := Lib.hid (DrawnP.mk' (B := B) (R := R) (m := m) (w := w) (pw := v7) (ph := (s2 : Int)) HS.out (by omega) (HR.out.mono (by omega)) HU.out (by omega) (by simp [World.setCell]; omega) hR)
      go_wp2_with (first | refine loadP G hq rfl rfl rfl ?_ | refine storeP w.heap.size hz rfl rfl rfl rfl rfl ?_)
      exact retP w.heap.size Try.results47 (hz.setRow _ _ _) rfl rfl HF.out
    · have e0 : (k6 == 0) = false := by simp; omega
      by_cases c1 : k6 = 1
      · subst c1
        go_wp2_with fail
        refine (pick_any _ _ (m + 1031 + 2) 3 _ (HR.out.alloc _) (by omega) (by omega)).mono ?_; rintro e w7 ⟨k7, rfl, p7, q7, hr, ho⟩
        replace HR := Lib.hid hr; clear hr
        replace HU := Lib.hid ((HU.out.alloc _).trans ho.but)
        have z7 : w6.heap.size + 1 = w7.heap.size := by have := ho.size; simpa using this.symm
        replace HZ := Lib.hid ((HZ.out.alloc _).only ho (by omega))
        replace HQ := Lib.hid ((HQ.out.alloc _).only ho (by omega))
        replace HS := Lib.hid ((HS.out.alloc (by omega) _).only ho (by omega))
        obtain ⟨j7, rfl⟩ := Int.eq_ofNat_of_zero_le p7
        have hj7 : j7 < 3 := by omega
        have hc7 := lit_cell [0, 9, 40] ((ho.block w6.heap.size (by omega)).trans (heap_alloc_new w6 _)) j7 hj7
        generalize pickL [0, 9, 40] j7 = v7 at *
        clear ho
        have c1 := HQ.out.c1; have f1 := HQ.out.fr 1
        go_upto_region 14 with fail
        replace HQ := Lib.hid (HQ.out.set1 v7)
        replace HZ := Lib.hid (HZ.out.other (g' := G) (k := 1) (x := .int .i64 v7) (by omega))
        replace HS := Lib.hid (HS.out.setCell (p := ⟨G, 1, none⟩) (.inr (by simp)) (.int .i64 v7))
        replace HR := Lib.hid (HR.out.setCell (p := ⟨G, 1, none⟩) (by simp; omega) (.int .i64 v7))
        replace HU := Lib.hid (HU.out.setCell (p := ⟨G, 1, none⟩) (by simp; omega) (.int .i64 v7))
        clear c1 f1
        have hz := HZ.out; have hq := HQ.out
        have HF := Lib.hid (DrawnP.mk' (B := B) (R := R) (m := m) (w := w) (pw := (s1 : Int)) (ph := v7) HS.out (by omega) (HR.out.mono (by omega)) HU.out (by omega) (by simp [World.setCell]; omega) hR)
        go_wp2_with (first | refine loadP G hq rfl rfl rfl ?_ | refine storeP w.heap.size hz rfl rfl rfl rfl rfl ?_)
        exact retP w.heap.size Try.results47 (hz.setRow _ _ _) rfl rfl HF.out
      · have e1 : (k6 == 1) = false := by simp; omega
        by_cases c2 : k6 = 2
        · subst c2
          go_upto_region 11 with fail
          have HR0 := Lib.hid (HR.out.mono (m' := m + 1033 + 0) (by omega))
          refine wp_region_lo 12 (fun k w' => Rd B w' R (m + 1033 + k) ∧ But R w6 w') (fun w1 w2 => But R w1 w2) [(fun _ v => v = .pointer (some ⟨G, 2, none⟩)), (fun _ v => v = .slice (some ⟨gp, 0, none⟩) n cp), (fun _ v => v = .pointer (some ⟨R, 0, none⟩)), (fun _ v => v = .pointer (some ⟨G, 2, none⟩)), (fun _ v => v = .slice (some ⟨gp, 0, none⟩) n cp), (fun _ v => v = .int .i64 (n : Int)), (fun _ v => ∃ k : Nat, v = .int .i64 (k : Int) ∧ k < n), (fun w' v => ∃ L, v = .slice (some ⟨L, 0, none⟩) 2 2 ∧ R < L ∧ w'.heap[L]? = some (.cells (([-1, 256] : List Int).map (Value.int .i64)).toArray 3 (0, 0))), (fun _ v => v = .pointer (some ⟨R, 0, none⟩)), (fun _ v => ∃ k : Nat, v = .int .i64 (k : Int) ∧ k < 2), (fun w' v => ∃ (L j : Nat) (x : Int), v = .pointer (some ⟨L, j, none⟩) ∧ R < L ∧ L < w'.heap.size ∧ w'.cell? ⟨L, j, none⟩ = some (.int .i64 x)), (fun _ v => ∃ x : Int, v = .int .i64 x)] (by kernel_rfl) (by kernel_rfl) ⟨HR0.out, ⟨rfl, rfl, rfl, Nat.le_refl _, fun _ _ _ => rfl⟩⟩ ?_ ?_ ?_
          · intro V hV w1 w2 v hv hr
            simp only [List.mem_cons, List.not_mem_nil, or_false] at hV
            rcases hV with rfl | rfl | rfl | rfl | rfl | rfl | rfl | rfl | rfl | rfl | rfl | rfl
            · exact hv
            · exact hv
            · exact hv
            · exact hv
            · exact hv
            · exact hv
            · exact hv
            · obtain ⟨L, e, h1, h2⟩ := hv; exact ⟨L, e, h1, (hr.block L (Array.getElem?_eq_some_iff.1 h2).1 (by omega)).trans h2⟩
            · exact hv
            · exact hv
            · obtain ⟨L, j, x, e, h1, h2, h3⟩ := hv; exact ⟨L, j, x, e, h1, Nat.lt_of_lt_of_le h2 hr.size, (World.cell?_of_block (hr.block L h2 (by omega))).trans h3⟩
            · exact hv
          · refine ⟨?_, ?_, ?_, ?_, ?_, ?_, ?_, ?_, ?_, ?_, ?_, ?_, trivial⟩
            · intro vs k1 w1 hk1 hS1 hd fb hb K hK
              replace hb : fb = _ := hb
              subst hb
              go_simp
              exact hK.out _ _ ⟨hS1.1.mono (by omega), hS1.2⟩ (But.refl _ _) rfl
            · intro vs k1 w1 hk1 hS1 hd fb hb K hK
              obtain ⟨d0, _⟩ := hd
              replace hb : fb = Act.put (_) (some 38) (vs 0) := hb
              have e0 : vs 0 = .pointer (some ⟨G, 2, none⟩) := d0
              rw [e0] at hb; clear e0 d0
              subst hb
              have hc := (HQ.out.but hS1.2 (by omega)).c2
              go_simp
              exact hK.out _ _ ⟨hS1.1.mono (by omega), hS1.2⟩ (But.refl _ _) rfl
            · intro vs k1 w1 hk1 hS1 hd fb hb K hK
              replace hb : fb = _ := hb
              subst hb
              go_simp
              exact hK.out _ _ ⟨hS1.1.mono (by omega), hS1.2⟩ (But.refl _ _) rfl
            · intro vs k1 w1 hk1 hS1 hd fb hb K hK
              replace hb : fb = _ := hb
              subst hb
              go_simp
              exact hK.out _ _ ⟨hS1.1.mono (by omega), hS1.2⟩ (But.refl _ _) rfl
            · intro vs k1 w1 hk1 hS1 hd fb hb K hK
              obtain ⟨d3, _⟩ := hd
              replace hb : fb = Act.put (_) (some 41) (vs 3) := hb
              have e3 : vs 3 = .pointer (some ⟨G, 2, none⟩) := d3
              rw [e3] at hb; clear e3 d3
              subst hb
              have hc := (HQ.out.but hS1.2 (by omega)).c2
              go_simp
              exact hK.out _ _ ⟨hS1.1.mono (by omega), hS1.2⟩ (But.refl _ _) rfl
            · intro vs k1 w1 hk1 hS1 hd fb hb K hK
              obtain ⟨d4, _⟩ := hd
              replace hb : fb = Act.put (_) (some 42) (vs 4) := hb
              have e4 : vs 4 = .slice (some ⟨gp, 0, none⟩) n cp := d4
              rw [e4] at hb; clear e4 d4
              subst hb
              go_simp
              exact hK.out _ _ ⟨hS1.1.mono (by omega), hS1.2⟩ (But.refl _ _) rfl
            · intro vs k1 w1 hk1 hS1 hd fb hb K hK
              obtain ⟨d2, d5, _⟩ := hd
              replace hb : fb = Act.put (Act.put (_) (some 40) (vs 2)) (some 43) (vs 5) := hb
              have e2 : vs 2 = .pointer (some ⟨R, 0, none⟩) := d2
              rw [e2] at hb; clear e2 d2
              have e5 : vs 5 = .int .i64 (n : Int) := d5
              rw [e5] at hb; clear e5 d5
              subst hb
              go_simp
              refine (pick_any B R (m + 1033 + k1) n _ hS1.1 (by omega) (by omega)).mono ?_; rintro e w2 ⟨x, rfl, x0, x1, hr, ho⟩
              exact hK.out _ _ ⟨hr, hS1.2.trans ho.but⟩ ho.but ⟨x.toNat, by rw [Int.toNat_of_nonneg x0], by omega⟩
            · intro vs k1 w1 hk1 hS1 hd fb hb K hK
              replace hb : fb = _ := hb
              subst hb
              have hRl := hS1.1.lt
              go_simp
              exact hK.out _ _ ⟨(hS1.1.mono (by omega)).alloc _, hS1.2.alloc _⟩ ((But.refl _ _).alloc _) ⟨w1.heap.size, rfl, hRl, heap_alloc_new w1 _⟩
            · intro vs k1 w1 hk1 hS1 hd fb hb K hK
              replace hb : fb = _ := hb
              subst hb
              go_simp
              exact hK.out _ _ ⟨hS1.1.mono (by omega), hS1.2⟩ (But.refl _ _) rfl
            · intro vs k1 w1 hk1 hS1 hd fb hb K hK
              obtain ⟨d8, d6, _⟩ := hd
              replace hb : fb = Act.put (Act.put (_) (some 46) (vs 8)) (some 44) (vs 6) := hb
              have e8 : vs 8 = .pointer (some ⟨R, 0, none⟩) := d8
              rw [e8] at hb; clear e8 d8
              obtain ⟨kk, e6, hkk⟩ := d6
              rw [e6] at hb; clear e6
              subst hb
              go_simp
              refine (pick_any B R (m + 1033 + k1) 2 _ hS1.1 (by omega) (by omega)).mono ?_; rintro e w2 ⟨x, rfl, x0, x1, hr, ho⟩
              exact hK.out _ _ ⟨hr, hS1.2.trans ho.but⟩ ho.but ⟨x.toNat, by rw [Int.toNat_of_nonneg x0], by omega⟩
            · intro vs k1 w1 hk1 hS1 hd fb hb K hK
              obtain ⟨d7, d9, _⟩ := hd
              replace hb : fb = Act.put (Act.put (_) (some 45) (vs 7)) (some 47) (vs 9) := hb
              obtain ⟨L, e7, hL, hLc⟩ := d7
              rw [e7] at hb; clear e7
              obtain ⟨kj, e9, hkj⟩ := d9
              rw [e9] at hb; clear e9
              subst hb
              have hkj1 : (kj : Int) < 2 := by omega
              have hLl := (Array.getElem?_eq_some_iff.1 hLc).1
              have hLk := lit_cell [-1, 256] hLc kj hkj
              go_simp
              exact hK.out _ _ ⟨hS1.1.mono (by omega), hS1.2⟩ (But.refl _ _) ⟨L, kj, _, rfl, hL, hLl, hLk⟩
            · intro vs k1 w1 hk1 hS1 hd fb hb K hK
              obtain ⟨d10, _⟩ := hd
              replace hb : fb = Act.put (_) (some 48) (vs 10) := hb
              obtain ⟨L, j, x, e10, hL, hLz, hLc⟩ := d10
              rw [e10] at hb; clear e10
              subst hb
              go_simp
              exact hK.out _ _ ⟨hS1.1.mono (by omega), hS1.2⟩ (But.refl _ _) ⟨x, rfl⟩
          · intro vs w1 hS1 hd fb hb
            obtain ⟨d0, d1, d2, d3, d4, d5, d6, d7, d8, d9, d10, d11, _⟩ := hd
            replace hb : fb = Act.put (Act.put (Act.put (Act.put (Act.put (Act.put (Act.put (Act.put (Act.put (Act.put (Act.put (Act.put (_) (some 38) (vs 0)) (some 39) (vs 1)) (some 40) (vs 2)) (some 41) (vs 3)) (some 42) (vs 4)) (some 43) (vs 5)) (some 44) (vs 6)) (some 45) (vs 7)) (some 46) (vs 8)) (some 47) (vs 9)) (some 48) (vs 10)) (some 49) (vs 11) := hb
            have e0 : vs 0 = .pointer (some ⟨G, 2, none⟩) := d0
            rw [e0] at hb; clear e0 d0
            have e1 : vs 1 = .slice (some ⟨gp, 0, none⟩) n cp := d1
            rw [e1] at hb; clear e1 d1
            have e2 : vs 2 = .pointer (some ⟨R, 0, none⟩) := d2
            rw [e2] at hb; clear e2 d2
            have e3 : vs 3 = .pointer (some ⟨G, 2, none⟩) := d3
            rw [e3] at hb; clear e3 d3
            have e4 : vs 4 = .slice (some ⟨gp, 0, none⟩) n cp := d4
            rw [e4] at hb; clear e4 d4
            have e5 : vs 5 = .int .i64 (n : Int) := d5
            rw [e5] at hb; clear e5 d5
            obtain ⟨kk, e6, hkk⟩ := d6
            rw [e6] at hb; clear e6
            obtain ⟨L, e7, hL, hLc⟩ := d7
            rw [e7] at hb; clear e7
            have e8 : vs 8 = .pointer (some ⟨R, 0, none⟩) := d8
            rw [e8] at hb; clear e8 d8
            obtain ⟨kj, e9, hkj⟩ := d9
            rw [e9] at hb; clear e9
            obtain ⟨L, j, x, e10, hL, hLz, hLc⟩ := d10
            rw [e10] at hb; clear e10
            obtain ⟨x, e11⟩ := d11
            rw [e11] at hb; clear e11
            subst hb
            simp only [List.drop_succ_cons, List.drop_zero, Act.put, List.setIfInBounds_toArray, List.set_cons_succ, List.set_cons_zero]
            have z7 := hS1.2.size
            have hq := HQ.out.but hS1.2 (by omega)
            have hz := HZ.out.but hS1.2 (by omega)
            have hs := HS.out.but hS1.2 (by omega)
            have hu := HU.out.trans hS1.2
            have hr := hS1.1
            have hkk1 : (kk : Int) < (n : Int) := by omega
            clear HQ HZ HS HU HR HR0 hS1
            have hs0 := hs
            obtain ⟨a', cap', e', hn', hcl⟩ := hs0
            obtain ⟨g', off', e'', _, _, hcl⟩ := hcl (by omega)
            cases e'
            cases e''
            have hc := (hcl kk hkk).1
            have hf := (hcl kk hkk).2
            have hsx := Sn.put hs (by omega) kk x
            clear hcl hs
            rw [Nat.zero_add] at hc hf
            have HZ := Lib.hid (hz.other (g' := gp) (k := kk) (x := .int .i64 x) (by omega))
            have HQ := Lib.hid (hq.other (g' := gp) (k := kk) (x := .int .i64 x) (by omega))
            have HS := Lib.hid hsx
            have HR := Lib.hid (hr.setCell (p := ⟨gp, kk, none⟩) (by simp; omega) (.int .i64 x))
            have HU := Lib.hid (hu.setCell (p := ⟨gp, kk, none⟩) (by simp; omega) (.int .i64 x))
            clear hz hq hsx hr hu
            go_upto_region 14 with fail
            have hz := HZ.out; have hq := HQ.out
            have HF := Lib.hid (DrawnP.mk' (B := B) (R := R) (m := m) (w := w) (pw := (s1 : Int)) (ph := (s2 : Int)) HS.out (by omega) (HR.out.mono (by omega)) HU.out (by omega) (by simp [World.setCell]; omega) hR)
            go_wp2_with (first | refine loadP G hq rfl rfl rfl ?_ | refine storeP w.heap.size hz rfl rfl rfl rfl rfl ?_)
            exact retP w.heap.size Try.results47 (hz.setRow _ _ _) rfl rfl HF.out
        · have e2 : (k6 == 2) = false := by simp; omega
          by_cases c3 : k6 = 3
          · subst c3
            have c1 := HQ.out.c2; have f1 := HQ.out.fr 2
            have hcp : ¬ cp = 1 := by omega
            have HS2 := Lib.hid (Sn.tail HS.out (by omega))
            go_upto_region 14 with fail
            have HQ2 := Lib.hid (HQ.out.set2 (.slice (some ⟨gp, 1, none⟩) (n - 1) (cp - 1)))
            clear HQ HS c1 f1
            have HQ := HQ2; clear HQ2
            replace HZ := Lib.hid (HZ.out.other (g' := G) (k := 2) (x := (.slice (some ⟨gp, 1, none⟩) (n - 1) (cp - 1))) (by omega))
            have HS := Lib.hid (HS2.out.setCell (p := ⟨G, 2, none⟩) (.inr (by simp)) (.slice (some ⟨gp, 1, none⟩) (n - 1) (cp - 1))); clear HS2
            replace HR := Lib.hid (HR.out.setCell (p := ⟨G, 2, none⟩) (by simp; omega) (.slice (some ⟨gp, 1, none⟩) (n - 1) (cp - 1)))
            replace HU := Lib.hid (HU.out.setCell (p := ⟨G, 2, none⟩) (by simp; omega) (.slice (some ⟨gp, 1, none⟩) (n - 1) (cp - 1)))
            have hz := HZ.out; have hq := HQ.out
            have HF := Lib.hid (DrawnP.mk' (B := B) (R := R) (m := m) (w := w) (pw := (s1 : Int)) (ph := (s2 : Int)) HS.out (by omega) (HR.out.mono (by omega)) HU.out (by omega) (by simp [World.setCell]; omega) hR)
            go_wp2_with (first | refine loadP G hq rfl rfl rfl ?_ | refine storeP w.heap.size hz rfl rfl rfl rfl rfl ?_)
            exact retP w.heap.size Try.results47 (hz.setRow _ _ _) rfl rfl HF.out
          · have e3 : (k6 == 3) = false := by simp; omega
            have hz := HZ.out
            have HF := Lib.hid (DrawnP.mk' (B := B) (R := R) (m := m) (w := w) (pw := 0) (ph := 0) (Sn.nil (w1 := w6) (w.heap.size + 1) w6.heap.size f) (by omega) (HR.out.mono (by omega)) HU.out (by omega) (by omega) hR)
            go_wp2_with (refine storeP w.heap.size hz rfl rfl rfl rfl rfl ?_)
            exact retP w.heap.size Try.results47 (hz.setRow _ _ _) rfl rfl HF.out
end Go.Proofs.Ytinmfeflbaeodaa
