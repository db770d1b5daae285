/- Drawing pictures. -/
import Derived.Test.YtinmfeflbaeodaaPic4
import Derived.Test.YtinmfeflbaeodaaDrawEdges
namespace Go.Proofs.Ytinmfeflbaeodaa
open Go.RowKit

theorem PicB.only {R g : Nat} {w w' : World} {pw ph : Int} {v : Value} (h : PicB w g pw ph v) (ho : Only R w w') (hg : g ≠ R) : PicB w' g pw ph v := (ho.block g hg).trans h
theorem PicB.but {R g : Nat} {w w' : World} {pw ph : Int} {v : Value} (h : PicB w g pw ph v) (ho : But R w w') (hg : g ≠ R) : PicB w' g pw ph v := (ho.block g h.lt hg).trans h
theorem OwnK.only {k : IntKind} {e : TypeId} {base R : Nat} {w w' : World} {v : Value} {n : Nat} {f : Nat → Int} (h : OwnK k e base w v n f) (ho : Only R w w') (hb : R < base) : OwnK k e base w' v n f :=
  h.kept fun g hg => ho.block g (by have := (h.lt g hg).1; omega)
theorem OwnK.but {k : IntKind} {e : TypeId} {base R : Nat} {w w' : World} {v : Value} {n : Nat} {f : Nat → Int} (h : OwnK k e base w v n f) (ho : But R w w') (hb : R < base) : OwnK k e base w' v n f :=
  h.kept fun g hg => ho.block g (h.lt g hg).2 (by have := (h.lt g hg).1; omega)
theorem Sn.but {k : IntKind} {lo hi R : Nat} {w w' : World} {v : Value} {n : Nat} {b : Nat → Int} (h : Sn k lo hi w v n b) (ho : But R w w') (hd : R < lo ∧ hi ≤ w.heap.size) : Sn k lo hi w' v n b := h.kept fun g h1 h2 => ho.block g (by omega) (by omega)
theorem Rd.grown {B : Nat} {w w' : World} {R m : Nat} {row : Option Nat} (h : Rd B w R m) (hg : w.grownBy w' row) (hne : ∀ g, row = some g → R < g) : Rd B w' R m := by
  have := h.lt
  exact h.kept fun g hgR => hg.block g (by omega) (fun e => by have := hne g e.symm; omega)
theorem But.grown {R : Nat} {a w w' : World} {row : Option Nat} (h : But R a w) (hg : w.grownBy w' row) (hne : ∀ g, row = some g → a.heap.size ≤ g) : But R a w' := by
  have hb : Below a.heap.size w w' := (Below.refl a.heap.size w).grown hg h.size hne
  exact ⟨hb.os.trans h.os, hb.tape.trans h.tape, hb.output.trans h.output, Nat.le_trans h.size hb.size, fun k hk hr => (hb.block k hk).trans (h.block k hk hr)⟩
/-- What l20Size leaves. -/
def Sized (B R m : Nat) (w : World) (e : Ending) (w' : World) : Prop := ∃ k : Nat, e = .returned (.int .i64 (k : Int)) ∧ 8 ≤ k ∧ k ≤ 32 ∧ Rd B w' R (m + 1) ∧ But R w w'
theorem l20Size_any (B R m : Nat) (w : World) (h : Rd B w R m) (hm : m ≤ 100000) :
    Calls Try.prog 42 #[.pointer (some ⟨R, 0, none⟩)] w (Sized B R m w) := by
  have hR := h.lt
  have HR := Lib.hid (show Rd B w R (m + 0) from h); clear h
  have HU := Lib.hid (But.refl R w)
  go_enter Try.func42, Try.ntmps42
  go_wp2_with fail
  refine (pick_any _ _ (m + 0) 7 _ (HR.out.alloc _) (by omega) (by omega)).mono ?_; rintro e w1 ⟨k1, rfl, p1, q1, hr, ho⟩
  replace HR := Lib.hid hr; clear hr
  replace HU := Lib.hid ((HU.out.alloc _).trans ho.but)
  have z1 : w.heap.size + 1 = w1.heap.size := by have := ho.size; simpa using this.symm
  obtain ⟨j1, rfl⟩ := Int.eq_ofNat_of_zero_le p1
  have hj1 : j1 < 7 := by omega
  have hc1 := lit_cell [1, 1, 1, 2, 2, 3, 4] ((ho.block w.heap.size (by omega)).trans (heap_alloc_new w _)) j1 hj1
  have hbd1 := pickL_bd (l := [1, 1, 1, 2, 2, 3, 4]) (lo := 1) (hi := 4) (by simp; try omega) j1 hj1
  generalize pickL [1, 1, 1, 2, 2, 3, 4] j1 = v1 at *
  clear ho
  obtain ⟨v, rfl⟩ := Int.eq_ofNat_of_zero_le (a := v1) (by omega)
  go_wp2_with fail
  go_ret
  exact ⟨8 * v, ret_int (by omega), by omega, by omega, HR.out, HU.out⟩
/-- A picture of W by H samples has been drawn; it lies in memory of its own. -/
def PicDrawn (B R m W H : Nat) (w : World) (e : Ending) (w' : World) : Prop :=
  ∃ (v : Value) (f : Nat → Int), e = .returned (.agg #[.int .i64 (W : Int), .int .i64 (H : Int), v]) ∧ OwnK .i64 3 w.heap.size w' v (H * W) f ∧ Rd B w' R (m + 1029) ∧ But R w w'
theorem mul_bd (d : Int) (x : Nat) (h1 : -4 ≤ d) (h2 : d ≤ 4) (hx : x ≤ 32) : -128 ≤ d * (x : Int) ∧ d * (x : Int) ≤ 128 := by
  have e1 : d * (x : Int) ≤ 4 * (x : Int) := Int.mul_le_mul_of_nonneg_right h2 (by omega)
  have e2 : -4 * (x : Int) ≤ d * (x : Int) := Int.mul_le_mul_of_nonneg_right h1 (by omega)
  omega
set_option maxRecDepth 100000 in
set_option maxHeartbeats 4000000 in
theorem l20Pic_any (B R m W H : Nat) (w : World) (h : Rd B w R m) (hm : m ≤ 100000) (hW : W ≤ 32) (hH : H ≤ 32) :
    Calls Try.prog 53 #[.pointer (some ⟨R, 0, none⟩), .int .i64 (W : Int), .int .i64 (H : Int)] w (PicDrawn B R m W H w) := by
  have hR := h.lt
  obtain ⟨w0, hw0⟩ : ∃ w0, w0 = (w.alloc (.cells #[.int .i64 0, .int .i64 0, .slice none 0 0] 25)).alloc (.cells #[.int .i64 (W : Int), .int .i64 (H : Int), .slice none 0 0] 25) := ⟨_, rfl⟩
  have HZ := Lib.hid (show PicB w0 w.heap.size 0 0 (.slice none 0 0) by rw [hw0]; exact (PicB.new' rfl).alloc _)
  have HQ := Lib.hid (show PicB w0 (w.heap.size + 1) (W : Int) (H : Int) (.slice none 0 0) by rw [hw0]; exact PicB.new' (by simp))
  have HR := Lib.hid (show Rd B w0 R (m + 0) by rw [hw0]; exact (h.alloc _).alloc _); clear h
  have HU := Lib.hid (show But R w w0 by rw [hw0]; exact ((But.refl _ _).alloc _).alloc _)
  have hs0 : w.heap.size + 2 = w0.heap.size := by rw [hw0]; simp
  have HW := Lib.hid hw0; clear hw0
  go_enter Try.func53, Try.ntmps53
  go_wp2_with fail
  rw [← HW.out]; clear HW
  refine (pick_any _ _ (m + 0) 256 _ HR.out (by omega) (by omega)).mono ?_; rintro e w1 ⟨k1, rfl, p1, q1, hr, ho⟩
  replace HR := Lib.hid hr; clear hr
  replace HU := Lib.hid (HU.out.trans ho.but)
  have z1 : w0.heap.size = w1.heap.size := by have := ho.size; simpa using this.symm
  replace HZ := Lib.hid (HZ.out.only ho (by omega))
  replace HQ := Lib.hid (HQ.out.only ho (by omega))
  clear ho
  go_wp2_with fail
  refine (pick_any _ _ (m + 1) 9 _ HR.out (by omega) (by omega)).mono ?_; rintro e w2 ⟨k2, rfl, p2, q2, hr, ho⟩
  replace HR := Lib.hid hr; clear hr
  replace HU := Lib.hid (HU.out.trans ho.but)
  have z2 : w1.heap.size = w2.heap.size := by have := ho.size; simpa using this.symm
  replace HZ := Lib.hid (HZ.out.only ho (by omega))
  replace HQ := Lib.hid (HQ.out.only ho (by omega))
  clear ho
  go_wp2_with fail
  refine (pick_any _ _ (m + 2) 9 _ HR.out (by omega) (by omega)).mono ?_; rintro e w3 ⟨k3, rfl, p3, q3, hr, ho⟩
  replace HR := Lib.hid hr; clear hr
  replace HU := Lib.hid (HU.out.trans ho.but)
  have z3 : w2.heap.size = w3.heap.size := by have := ho.size; simpa using this.symm
  replace HZ := Lib.hid (HZ.out.only ho (by omega))
  replace HQ := Lib.hid (HQ.out.only ho (by omega))
  clear ho
  go_wp2_with fail
  refine (pick_any _ _ (m + 3) 5 _ (HR.out.alloc _) (by omega) (by omega)).mono ?_; rintro e w4 ⟨k4, rfl, p4, q4, hr, ho⟩
  replace HR := Lib.hid hr; clear hr
  replace HU := Lib.hid ((HU.out.alloc _).trans ho.but)
  have z4 : w3.heap.size + 1 = w4.heap.size := by have := ho.size; simpa using this.symm
  replace HZ := Lib.hid ((HZ.out.alloc _).only ho (by omega))
  replace HQ := Lib.hid ((HQ.out.alloc _).only ho (by omega))
  obtain ⟨j4, rfl⟩ := Int.eq_ofNat_of_zero_le p4
  have hj4 : j4 < 5 := by omega
  have hc4 := lit_cell [0, 1, 4, 30, 256] ((ho.block w3.heap.size (by omega)).trans (heap_alloc_new w3 _)) j4 hj4
  have hbd4 := pickL_bd (l := [0, 1, 4, 30, 256]) (lo := 0) (hi := 256) (by simp; try omega) j4 hj4
  generalize pickL [0, 1, 4, 30, 256] j4 = v4 at *
  clear ho
  go_wp2_with fail
  refine (pick_any _ _ (m + 4) _ _ HR.out (by omega) (by omega)).mono ?_; rintro e w5 ⟨k5, rfl, p5, q5, hr, ho⟩
  replace HR := Lib.hid hr; clear hr
  replace HU := Lib.hid (HU.out.trans ho.but)
  have z5 : w4.heap.size = w5.heap.size := by have := ho.size; simpa using this.symm
  replace HZ := Lib.hid (HZ.out.only ho (by omega))
  replace HQ := Lib.hid (HQ.out.only ho (by omega))
  clear ho
  go_wp2_with fail
  generalize k1 = a at *
  generalize k5 = edge at *
  generalize v4 = noise at *
  obtain ⟨dx, hdx⟩ : ∃ dx : Int, k2 - 4 = dx := ⟨_, rfl⟩
  obtain ⟨dy, hdy⟩ : ∃ dy : Int, k3 - 4 = dy := ⟨_, rfl⟩
  rw [hdx, hdy]
  have x1 : -4 ≤ dx ∧ dx ≤ 4 := by omega
  have y1 : -4 ≤ dy ∧ dy ≤ 4 := by omega
  clear hdx hdy
  have hw5 : w.heap.size + 2 ≤ w5.heap.size := by omega
  clear z1 z2 z3 z4 z5 hs0
  go_loopw [13] (fun i wr => ∃ (y : Nat) (u : Value) (f : Nat → Int), y ≤ H ∧ i = .int .i64 y ∧ Rd B wr R (m + 5 + y * W) ∧ But R w wr ∧ PicB wr w.heap.size 0 0 (.slice none 0 0) ∧ PicB wr (w.heap.size + 1) (W : Int) (H : Int) u ∧ OwnK .i64 3 (w.heap.size + 2) wr u (y * W) f) (fun i _ => H - (intOf i).toNat)
  case atStart => exact ⟨0, _, fun _ => 0, by omega, rfl, HR.out.mono (by omega), HU.out, HZ.out, HQ.out, by rw [Nat.zero_mul]; exact OwnK.nil _ _ _ _ _⟩
  case round =>
    clear HR HU HZ HQ
    obtain ⟨y, u, f, hy, rfl, hr, hu, hz, hq, ho⟩ := hrel
    by_cases hlt : y < H
    · have hlt' : (y : Int) < (H : Int) := by omega
      go_wp2_with fail
      go_loopw [14] (fun i wr => ∃ (x : Nat) (u : Value) (f : Nat → Int), x ≤ W ∧ i = .int .i64 x ∧ Rd B wr R (m + 5 + y * W + x) ∧ But R w wr ∧ PicB wr w.heap.size 0 0 (.slice none 0 0) ∧ PicB wr (w.heap.size + 1) (W : Int) (H : Int) u ∧ OwnK .i64 3 (w.heap.size + 2) wr u (y * W + x) f) (fun i _ => W - (intOf i).toNat)
      case atStart => exact ⟨0, _, _, by omega, rfl, hr, hu, hz, hq, ho⟩
      case round =>
        clear hr hu hz hq ho u f
        obtain ⟨x, u, f, hx, rfl, hr, hu, hz, hq, ho⟩ := hrel
        have HR := Lib.hid (show Rd B wr R (m + 5 + y * W + x + 0) from hr); have HU := Lib.hid hu; have HZ := Lib.hid hz; have HQ := Lib.hid hq; have HO := Lib.hid ho
        have hzl := hq.lt
        clear hr hu hz hq ho
        have hyw : y * W ≤ 1024 := by have h1 : y * W ≤ 32 * W := Nat.mul_le_mul_right W (by omega); omega
        by_cases hxl : x < W
        · have hxl' : (x : Int) < (W : Int) := by omega
          have m1 := mul_bd dx x x1.1 x1.2 (by omega)
          have m2 := mul_bd dy y y1.1 y1.2 (by omega)
          have s1 : 0 ≤ (y : Int) / 2 ∧ (y : Int) / 2 ≤ 32 := by omega
          by_cases hno : 0 < noise
          · skip
            go_wp2_with fail
            refine (pick_any _ _ (m + 5 + y * W + x + 0) noise _ HR.out (by omega) (by omega)).mono ?_; rintro e w11 ⟨k11, rfl, p11, q11, hr, ho⟩
            replace HR := Lib.hid hr; clear hr
            replace HU := Lib.hid (HU.out.trans ho.but)
            have z11 : wr.heap.size = w11.heap.size := by have := ho.size; simpa using this.symm
            replace HZ := Lib.hid (HZ.out.only ho (by omega))
            replace HQ := Lib.hid (HQ.out.only ho (by omega))
            replace HO := Lib.hid (HO.out.only ho (by omega))
            clear ho
            have kb : k11 ≤ 255 := by omega
            by_cases hed : edge < (x : Int) + (y : Int) / 2
            · skip
              have hq := HQ.out; have hO := HO.out
              have c1 := hq.c2
              have hcl := hq.lt
              go_wp2_with (at_builtin; refine appendInt (w.heap.size + 2) _ w11.heap.size (hO.alloc _) (new_cell' _ _ _) (by omega) (by simp; omega) rfl rfl rfl rfl ?_; intro v' w9 hO1 hgrow hat; have hu1 : u.ownBlock ≠ some (w.heap.size + 1) := (fun e => by have := (hO.lt _ e).1; omega); have hQ1 := (hq.alloc (.cells #[_] 3)).grown hgrow hu1; have c2 := hQ1.c2; have f2 := hQ1.fr 2; obtain ⟨g', cap', rfl, hcap', hg1, hg2, _⟩ := hO1.form (by omega))
              have hZ1 := (HZ.out.alloc _).grown hgrow (fun e => by have := (hO.lt _ e).1; omega)
              have hR1 := (HR.out.alloc _).grown hgrow (fun g e => by have := (hO.lt _ e).1; omega)
              have hU1 := (HU.out.alloc _).grown hgrow (fun g e => by have := (hO.lt _ e).1; omega)
              go_roundw
              case rel => exact ⟨x + 1, _, _, by omega, by go_num, (hR1.setCell (by simp; omega) _).mono (by omega), hU1.setCell (by simp) _, hZ1.other (by omega), hQ1.set2 _, hO1.setCell (by simp [Value.ownBlock]; omega) _⟩
              case measure => simp [intOf]; omega
            · skip
              have hed : (x : Int) + (y : Int) / 2 ≤ edge := by omega
              have hq := HQ.out; have hO := HO.out
              have c1 := hq.c2
              have hcl := hq.lt
              go_wp2_with (at_builtin; refine appendInt (w.heap.size + 2) _ w11.heap.size (hO.alloc _) (new_cell' _ _ _) (by omega) (by simp; omega) rfl rfl rfl rfl ?_; intro v' w9 hO1 hgrow hat; have hu1 : u.ownBlock ≠ some (w.heap.size + 1) := (fun e => by have := (hO.lt _ e).1; omega); have hQ1 := (hq.alloc (.cells #[_] 3)).grown hgrow hu1; have c2 := hQ1.c2; have f2 := hQ1.fr 2; obtain ⟨g', cap', rfl, hcap', hg1, hg2, _⟩ := hO1.form (by omega))
              have hZ1 := (HZ.out.alloc _).grown hgrow (fun e => by have := (hO.lt _ e).1; omega)
              have hR1 := (HR.out.alloc _).grown hgrow (fun g e => by have := (hO.lt _ e).1; omega)
              have hU1 := (HU.out.alloc _).grown hgrow (fun g e => by have := (hO.lt _ e).1; omega)
              go_roundw
              case rel => exact ⟨x + 1, _, _, by omega, by go_num, (hR1.setCell (by simp; omega) _).mono (by omega), hU1.setCell (by simp) _, hZ1.other (by omega), hQ1.set2 _, hO1.setCell (by simp [Value.ownBlock]; omega) _⟩
              case measure => simp [intOf]; omega
          · have hno : noise ≤ 0 := by omega
            by_cases hed : edge < (x : Int) + (y : Int) / 2
            · skip
              have hq := HQ.out; have hO := HO.out
              have c1 := hq.c2
              have hcl := hq.lt
              go_wp2_with (at_builtin; refine appendInt (w.heap.size + 2) _ wr.heap.size (hO.alloc _) (new_cell' _ _ _) (by omega) (by simp; omega) rfl rfl rfl rfl ?_; intro v' w9 hO1 hgrow hat; have hu1 : u.ownBlock ≠ some (w.heap.size + 1) := (fun e => by have := (hO.lt _ e).1; omega); have hQ1 := (hq.alloc (.cells #[_] 3)).grown hgrow hu1; have c2 := hQ1.c2; have f2 := hQ1.fr 2; obtain ⟨g', cap', rfl, hcap', hg1, hg2, _⟩ := hO1.form (by omega))
              have hZ1 := (HZ.out.alloc _).grown hgrow (fun e => by have := (hO.lt _ e).1; omega)
              have hR1 := (HR.out.alloc _).grown hgrow (fun g e => by have := (hO.lt _ e).1; omega)
              have hU1 := (HU.out.alloc _).grown hgrow (fun g e => by have := (hO.lt _ e).1; omega)
              go_roundw
              case rel => exact ⟨x + 1, _, _, by omega, by go_num, (hR1.setCell (by simp; omega) _).mono (by omega), hU1.setCell (by simp) _, hZ1.other (by omega), hQ1.set2 _, hO1.setCell (by simp [Value.ownBlock]; omega) _⟩
              case measure => simp [intOf]; omega
            · skip
              have hed : (x : Int) + (y : Int) / 2 ≤ edge := by omega
              have hq := HQ.out; have hO := HO.out
              have c1 := hq.c2
              have hcl := hq.lt
              go_wp2_with (at_builtin; refine appendInt (w.heap.size + 2) _ wr.heap.size (hO.alloc _) (new_cell' _ _ _) (by omega) (by simp; omega) rfl rfl rfl rfl ?_; intro v' w9 hO1 hgrow hat; have hu1 : u.ownBlock ≠ some (w.heap.size + 1) := (fun e => by have := (hO.lt _ e).1; omega); have hQ1 := (hq.alloc (.cells #[_] 3)).grown hgrow hu1; have c2 := hQ1.c2; have f2 := hQ1.fr 2; obtain ⟨g', cap', rfl, hcap', hg1, hg2, _⟩ := hO1.form (by omega))
              have hZ1 := (HZ.out.alloc _).grown hgrow (fun e => by have := (hO.lt _ e).1; omega)
              have hR1 := (HR.out.alloc _).grown hgrow (fun g e => by have := (hO.lt _ e).1; omega)
              have hU1 := (HU.out.alloc _).grown hgrow (fun g e => by have := (hO.lt _ e).1; omega)
              go_roundw
              case rel => exact ⟨x + 1, _, _, by omega, by go_num, (hR1.setCell (by simp; omega) _).mono (by omega), hU1.setCell (by simp) _, hZ1.other (by omega), hQ1.set2 _, hO1.setCell (by simp [Value.ownBlock]; omega) _⟩
              case measure => simp [intOf]; omega
        · obtain rfl : x = W := by omega
          have hxl' : ¬ (x : Int) < (x : Int) := by omega
          have hr : Rd B wr R (m + 5 + (y + 1) * x) := HR.out.mono (by rw [Nat.add_mul, Nat.one_mul]; omega)
          have ho : OwnK .i64 3 (w.heap.size + 2) wr u ((y + 1) * x) f := by rw [Nat.add_mul, Nat.one_mul]; exact HO.out
          go_wp2_with fail
          go_roundw
          case rel => exact ⟨y + 1, _, _, by omega, by go_num, hr, HU.out, HZ.out, HQ.out, ho⟩
          case measure => simp [intOf]; omega
    · obtain rfl : y = H := by omega
      have hlt' : ¬ (y : Int) < (y : Int) := by omega
      have hu1 : u.oneCell' = true := by
        rcases ho.2 with ⟨rfl, _⟩ | ⟨g, cap, cur, rfl, _⟩ <;> rfl
      have ho2 := (ho.kept (w' := wr.setRow w.heap.size #[.int .i64 (W : Int), .int .i64 (y : Int), u]) (fun g hg => heap_setRow_other _ _ _ _ (by have := (ho.lt g hg).1; omega))).base (base' := w.heap.size) (by omega)
      have HF := Lib.hid (show PicDrawn B R m W y w (.returned (.agg #[.int .i64 (W : Int), .int .i64 (y : Int), u])) (wr.setRow w.heap.size #[.int .i64 (W : Int), .int .i64 (y : Int), u]) from ⟨u, f, rfl, ho2, (hr.mono (by have h1 : y * W ≤ 32 * W := Nat.mul_le_mul_right W (by omega); omega)).setRow (by omega) _, hu.setRow (Nat.le_refl _) _⟩)
      clear ho ho2 hr hu
      go_wp2_with (first | refine loadP (w.heap.size + 1) hq rfl rfl rfl ?_ | refine storeP w.heap.size hz hu1 rfl rfl rfl rfl ?_)
      exact retP w.heap.size Try.results53 (hz.setRow _ _ _) rfl rfl HF.out
end Go.Proofs.Ytinmfeflbaeodaa
