/- The edges of a block, of both; the walk of the exact law on them. -/
import Derived.Test.YtjogdkeoadkbnaaEdges
import Derived.Test.YtjogdkeoadkbnaaPicLaws
import Derived.Test.YtjogdkeoadkbnaaLooseG
import Derived.Deep.Cut
namespace Go.Proofs.Ytjogdkeoadkbnaa
open Go.RowKit

theorem EdgB.setRowOther {w : World} {g : Nat} {t : TypeId} {cs : Array Value} (h : EdgB w g t cs) (g' : Nat) (cs' : Array Value) (hg : g ≠ g') : EdgB (w.setRow g' cs') g t cs := (heap_setRow_other w g' cs' g hg).trans h
theorem EdgB.setRow {w : World} {g : Nat} {t : TypeId} {cs : Array Value} (h : EdgB w g t cs) (cs' : Array Value) : EdgB (w.setRow g cs') g t cs' := heap_setRow_same w g _ _ _ h
theorem edgV_setA (a b : Nat → Int) (c : Int) (u v : Bool) (k : Nat) (hk : k < 4) (x : Int) : (edgV a b c u v).setIfInBounds k (.int .i64 x) = edgV (fun i => if i = k then x else a i) b c u v := by
  rcases (by omega : k = 0 ∨ k = 1 ∨ k = 2 ∨ k = 3) with rfl | rfl | rfl | rfl <;> rfl
theorem edgV_setL (a b : Nat → Int) (c : Int) (u v : Bool) (k : Nat) (hk : k < 4) (x : Int) : (edgV a b c u v).setIfInBounds (4 + k) (.int .i64 x) = edgV a (fun i => if i = k then x else b i) c u v := by
  rcases (by omega : k = 0 ∨ k = 1 ∨ k = 2 ∨ k = 3) with rfl | rfl | rfl | rfl <;> rfl
theorem edgV_getA (a b : Nat → Int) (c : Int) (u v : Bool) (k : Nat) (hk : k < 4) : (edgV a b c u v)[k]? = some (.int .i64 (a k)) := by
  rcases (by omega : k = 0 ∨ k = 1 ∨ k = 2 ∨ k = 3) with rfl | rfl | rfl | rfl <;> rfl
theorem edgV_getL (a b : Nat → Int) (c : Int) (u v : Bool) (k : Nat) (hk : k < 4) : (edgV a b c u v)[4 + k]? = some (.int .i64 (b k)) := by
  rcases (by omega : k = 0 ∨ k = 1 ∨ k = 2 ∨ k = 3) with rfl | rfl | rfl | rfl <;> rfl
theorem edgV_setC (a b : Nat → Int) (c : Int) (u v : Bool) (x : Int) : (edgV a b c u v).setIfInBounds 8 (.int .i64 x) = edgV a b x u v := rfl
theorem edgV_congr {a a' b b' : Nat → Int} {c : Int} {u v : Bool} (h1 : ∀ i, i < 4 → a i = a' i) (h2 : ∀ i, i < 4 → b i = b' i) : edgV a b c u v = edgV a' b' c u v := by
  unfold edgV
  rw [h1 0 (by omega), h1 1 (by omega), h1 2 (by omega), h1 3 (by omega), h2 0 (by omega), h2 1 (by omega), h2 2 (by omega), h2 3 (by omega)]
theorem infoE (a b : Nat → Int) (c : Int) (u v : Bool) : (Try.prog.info? 41).map (·.size) = some (edgV a b c u v).size := by kernel_rfl
theorem edgV_one (a b : Nat → Int) (c : Int) (u v : Bool) : (edgV a b c u v).all (·.oneCell') = true := by simp [edgV, Value.oneCell']
theorem loadE {ops : Array Oper} {rest : List Oper} {o : Oper} {ac : Act} {w : World} {Q : Exit → Act → World → Prop} {x : Operand} {a b : Nat → Int} {c : Int} {u v : Bool} (g : Nat) (hB : EdgB w g 41 (edgV a b c u v)) (hgd : Region.wanted o (yielded ops ac.tmps) = true) (ho : o.op = .load 41 x)
    (hx : ac.eval x = .pointer (some ⟨g, 0, none⟩)) (h : wpList Try.prog ops Q rest (ac.put o.dst (.agg (edgV a b c u v))) w) : wpList Try.prog ops Q (o :: rest) ac w :=
  wpList_step fun K hK => by rw [if_pos hgd]; exact wp_load_row 41 x ho g hx 41 _ (0, 0) _ hB Try.underlying41 rfl (infoE _ _ _ _ _) (hK _ _ h)
theorem storeE {ops : Array Oper} {rest : List Oper} {o : Oper} {ac : Act} {w : World} {Q : Exit → Act → World → Prop} {x y : Operand} {a b a' b' : Nat → Int} {c c' : Int} {u v u' v' : Bool} (g : Nat) (hB : EdgB w g 41 (edgV a b c u v)) (hgd : o.guard = none) (ho : o.op = .store 41 x y)
    (hx : ac.eval x = .pointer (some ⟨g, 0, none⟩)) (hy : ac.eval y = .agg (edgV a' b' c' u' v')) (h : wpList Try.prog ops Q rest (ac.put o.dst undef) (w.setRow g (edgV a' b' c' u' v'))) : wpList Try.prog ops Q (o :: rest) ac w :=
  wpList_store_row hgd 41 x y ho g _ hx hy 41 _ hB (infoE _ _ _ _ _) rfl (edgV_one _ _ _ _ _) h
theorem retE {fn : Func} {R : Ending → World → Prop} {ac : Act} {w : World} {p : Tmp} {a b : Nat → Int} {c : Int} {u v : Bool} (g : Nat) (hr : fn.results = #[.cell p 41]) (hB : EdgB w g 41 (edgV a b c u v)) (hp : ac.tmps.getD p undef = .pointer (some ⟨g, 0, none⟩)) (hd : ac.defers = [])
    (hR : R (.returned (.agg (edgV a b c u v))) w) : bodyPost Try.prog fn R .ret ac w :=
  bodyPost_ret (results_cell_row hr _ _ g 41 _ (0, 0) _ hp hB Try.underlying41 rfl (infoE _ _ _ _ _)) hd hR
/-- The edges of the block at column x of row y. -/
def edA (pw ph : Int) (b : Nat → Int) (x y top : Int) (k : Nat) : Int := if top < y then b (atN pw ph (x + k) (y - 1)) else 128
def edL (pw ph : Int) (b : Nat → Int) (x y : Int) (k : Nat) : Int := if 0 < x then b (atN pw ph (x - 1) (y + k)) else 128
def edC (pw ph : Int) (b : Nat → Int) (x y top : Int) : Int := if top < y ∧ 0 < x then b (atN pw ph (x - 1) (y - 1)) else 128
theorem at_in {pw ph : Int} {n : Nat} {b : Nat → Int} (h : pvB pw ph n b = true) {x y : Int} (h1 : 0 ≤ x) (h2 : x < pw) (h3 : 0 ≤ y) (h4 : y < ph) : y * pw + x = (atN pw ph x y : Int) ∧ (0 ≤ y * pw ∧ y * pw ≤ 1000) ∧ atN pw ph x y < n := by
  obtain ⟨_, _, _, hm, hs, hl⟩ := at_bd h x y
  have e1 : clampI x 0 (pw - 1) = x := by unfold clampI; omega
  have e2 : clampI y 0 (ph - 1) = y := by unfold clampI; omega
  rw [e1, e2] at hs
  rw [e2] at hm
  exact ⟨hs, hm, hl⟩
theorem up_to {a : Nat → Int} {k : Nat} {x : Int} (h : x = a k) (j : Nat) : (if j = k then x else if j < k then a j else 0) = if j < k + 1 then a j else 0 := by
  by_cases e : j = k
  · subst e; rw [if_pos rfl, if_pos (by omega), h]
  · by_cases e2 : j < k
    · rw [if_neg e, if_pos e2, if_pos (by omega)]
    · rw [if_neg e, if_neg e2, if_neg (by omega)]
set_option maxRecDepth 100000 in
set_option maxHeartbeats 4000000 in
theorem iEdges_any (pw ph x y top : Int) (vv : Value) (n : Nat) (b : Nat → Int) (w : World) (h : Sr .i64 w.heap.size w vv n b) (hp : pvB pw ph n b = true) (x0 : 0 ≤ x) (x1 : x + 4 ≤ pw) (y0 : 0 ≤ y) (y1 : y + 4 ≤ ph) (t0 : 0 ≤ top) (t1 : top ≤ y) :
    Calls Try.prog 54 #[.agg #[.int .i64 pw, .int .i64 ph, vv], .int .i64 x, .int .i64 y, .int .i64 top] w fun e w' => e = .returned (.agg (edgV (edA pw ph b x y top) (edL pw ph b x y) (edC pw ph b x y top) (decide (top < y)) (decide (0 < x)))) ∧ Below w.heap.size w w' := by
  have hps : (8 ≤ pw ∧ pw ≤ 32) ∧ (8 ≤ ph ∧ ph ≤ 32) := by
    have := at_bd hp 0 0
    omega
  obtain ⟨⟨p0, p1⟩, q0, q1⟩ := hps
  have HPV := Lib.hid hp; clear hp
  obtain ⟨av, cv, rfl, hncv, hcl⟩ := h
  obtain ⟨gp, off, rfl, hgp, hcl⟩ := hcl (by have := (at_bd HPV.out 0 0).2.2.2.2.2; omega)
  have HC := Lib.hid hcl; clear hcl
  by_cases hu : top < y
  · skip
    rw [show decide (top < y) = true from decide_eq_true hu]
    by_cases hl : 0 < x
    · skip
      rw [show decide (0 < x) = true from decide_eq_true hl]
      have HA := Lib.hid (show ∀ k : Nat, edA pw ph b x y top k = b (atN pw ph (x + k) (y - 1)) from fun k => by unfold edA; rw [if_pos hu])
      have HL := Lib.hid (show ∀ k : Nat, edL pw ph b x y k = b (atN pw ph (x - 1) (y + k)) from fun k => by unfold edL; rw [if_pos hl])
      have HCN := Lib.hid (show edC pw ph b x y top = b (atN pw ph (x - 1) (y - 1)) from by unfold edC; rw [if_pos ⟨hu, hl⟩])
      obtain ⟨w0, hw0⟩ : ∃ z, z = (((w.alloc (.cells #[.int .i64 pw, .int .i64 ph, .slice (some ⟨gp, off, none⟩) n cv] 24)).alloc (.cells #[.int .i64 0, .int .i64 0, .int .i64 0, .int .i64 0, .int .i64 0, .int .i64 0, .int .i64 0, .int .i64 0, .int .i64 0, .bool false, .bool false] 41)).alloc (.cells #[.int .i64 0, .int .i64 0, .int .i64 0, .int .i64 0, .int .i64 0, .int .i64 0, .int .i64 0, .int .i64 0, .int .i64 0, .bool false, .bool false] 41)).setRow (w.heap.size + 2) (edgV (fun _ => 0) (fun _ => 0) 128 true true) := ⟨_, rfl⟩
      have hN : EdgB (((w.alloc (.cells #[.int .i64 pw, .int .i64 ph, .slice (some ⟨gp, off, none⟩) n cv] 24)).alloc (.cells #[.int .i64 0, .int .i64 0, .int .i64 0, .int .i64 0, .int .i64 0, .int .i64 0, .int .i64 0, .int .i64 0, .int .i64 0, .bool false, .bool false] 41)).alloc (.cells #[.int .i64 0, .int .i64 0, .int .i64 0, .int .i64 0, .int .i64 0, .int .i64 0, .int .i64 0, .int .i64 0, .int .i64 0, .bool false, .bool false] 41)) (w.heap.size + 2) 41 (edgV (fun _ => 0) (fun _ => 0) 0 false false) := EdgB.new' (by simp)
      have hPp : PicB w0 w.heap.size pw ph (.slice (some ⟨gp, off, none⟩) n cv) := by rw [hw0]; exact (((PicB.new' rfl).alloc _).alloc _).setRowOther _ _ (by omega)
      have hZ : EdgB w0 (w.heap.size + 1) 41 (edgV (fun _ => 0) (fun _ => 0) 0 false false) := by rw [hw0]; exact ((EdgB.new' (by simp)).alloc _).setRowOther _ _ (by omega)
      have hE : EdgB w0 (w.heap.size + 2) 41 (edgV (fun _ => 0) (fun _ => 0) 128 true true) := by rw [hw0]; exact hN.setRow _
      have hB : Below w.heap.size w w0 := by rw [hw0]; exact below_setRow ((((Below.refl _ _).alloc (Nat.le_refl _) _).alloc (by simp) _).alloc (by simp; omega) _) (by omega) _
      have HW := Lib.hid hw0; clear hw0
      have HN := Lib.hid hN; clear hN
      go_enter Try.func54, Try.ntmps54
      go_wp2_with (refine storeE (w.heap.size + 2) HN.out (a' := fun _ => 0) (b' := fun _ => 0) (c' := 128) (u' := true) (v' := true) rfl rfl rfl rfl ?_; rw [← HW.out])
      clear HW HN
      go_loopw [17] (fun i wr => ∃ k : Nat, k ≤ 4 ∧ i = .int .i64 k ∧ PicB wr w.heap.size pw ph (.slice (some ⟨gp, off, none⟩) n cv) ∧ EdgB wr (w.heap.size + 1) 41 (edgV (fun _ => 0) (fun _ => 0) 0 false false) ∧ EdgB wr (w.heap.size + 2) 41 (edgV (fun i => if i < k then edA pw ph b x y top i else 0) (fun i => if i < k then edL pw ph b x y i else 0) 128 true true) ∧ Below w.heap.size w wr) (fun i _ => 4 - (intOf i).toNat)
      case atStart => exact ⟨0, by omega, rfl, hPp, hZ, hE.cast (edgV_congr (fun i _ => by simp) (fun i _ => by simp)), hB⟩
      case round =>
        clear hPp hZ hE hB
        obtain ⟨k, hk, rfl, hPp, hZ, hE, hB⟩ := hrel
        by_cases hlt : k < 4
        · have hlt1 : (k : Int) < 4 := by omega
          have ca := (hE.cell k).trans (edgV_getA _ _ _ _ _ k hlt); have fa := hE.fr k
          have cl := (hE.cell (4 + k)).trans (edgV_getL _ _ _ _ _ k hlt); have fl := hE.fr (4 + k)
          obtain ⟨ws, hws⟩ : ∃ z, z = (wr.setCell ⟨w.heap.size + 2, k, none⟩ (.int .i64 128)).setCell ⟨w.heap.size + 2, 4 + k, none⟩ (.int .i64 128) := ⟨_, rfl⟩
          have HE := Lib.hid (show EdgB ws (w.heap.size + 2) 41 _ by rw [hws]; exact (((hE.set k _).cast (edgV_setA _ _ _ _ _ k hlt _)).set (4 + k) _).cast (edgV_setL _ _ _ _ _ k hlt _))
          have HP := Lib.hid (show PicB ws w.heap.size pw ph _ by rw [hws]; exact (hPp.other (by omega)).other (by omega))
          have HZ := Lib.hid (show EdgB ws (w.heap.size + 1) 41 _ by rw [hws]; exact (hZ.other (by omega)).other (by omega))
          have HB := Lib.hid (show Below w.heap.size w ws by rw [hws]; exact (hB.setCell (by simp) _).setCell (by simp) _)
          have HWS := Lib.hid hws; clear hws hE hPp hZ hB
          go_upto_region 6 with fail
          rw [← HWS.out]
          clear HWS ca fa cl fl
          have cu : ws.cell? ⟨w.heap.size + 2, 9, none⟩ = some (.bool true) := HE.out.cell 9
          have cw : ws.cell? ⟨w.heap.size + 2, 10, none⟩ = some (.bool true) := HE.out.cell 10
          go_wp2_with (refine loadP w.heap.size HP.out rfl rfl rfl ?_)
          refine (iAt_any pw ph (x + k) (y - 1) (.slice (some ⟨gp, off, none⟩) n cv) n b _ ⟨_, _, rfl, hncv, fun _ => ⟨gp, off, rfl, Nat.lt_of_lt_of_le hgp HB.out.size, fun i hi => (HB.out.cell (p := ⟨gp, off + i, none⟩) hgp).trans (HC.out i hi)⟩⟩ HPV.out).mono ?_; rintro e wt ⟨rfl, hwt⟩
          replace HE := Lib.hid (HE.out.below hwt HE.out.lt); replace HP := Lib.hid (HP.out.below hwt HP.out.lt); replace HZ := Lib.hid (HZ.out.below hwt HZ.out.lt); replace HB := Lib.hid (HB.out.trans (hwt.mono HB.out.size))
          clear hwt cu cw
          have ca := (HE.out.cell k).trans (edgV_getA _ _ _ _ _ k hlt); have fa := HE.out.fr k
          obtain ⟨wx, hwx⟩ : ∃ z, z = wt.setCell ⟨w.heap.size + 2, k, none⟩ (.int .i64 (b (atN pw ph (x + k) (y - 1)))) := ⟨_, rfl⟩
          have HE2 := Lib.hid (show EdgB wx (w.heap.size + 2) 41 _ by rw [hwx]; exact (HE.out.set k _).cast (edgV_setA _ _ _ _ _ k hlt _))
          have HP2 := Lib.hid (show PicB wx w.heap.size pw ph _ by rw [hwx]; exact HP.out.other (by omega))
          have HZ2 := Lib.hid (show EdgB wx (w.heap.size + 1) 41 _ by rw [hwx]; exact HZ.out.other (by omega))
          have HB2 := Lib.hid (show Below w.heap.size w wx by rw [hwx]; exact HB.out.setCell (by simp) _)
          have HWX := Lib.hid hwx; clear hwx
          go_upto_region 8 with fail
          rw [← HWX.out]
          clear HWX ca fa HE HP HZ HB
          have HE := HE2; have HP := HP2; have HZ := HZ2; have HB := HB2; clear HE2 HP2 HZ2 HB2
          have cw : wx.cell? ⟨w.heap.size + 2, 10, none⟩ = some (.bool true) := HE.out.cell 10
          go_wp2_with (refine loadP w.heap.size HP.out rfl rfl rfl ?_)
          refine (iAt_any pw ph (x - 1) (y + k) (.slice (some ⟨gp, off, none⟩) n cv) n b _ ⟨_, _, rfl, hncv, fun _ => ⟨gp, off, rfl, Nat.lt_of_lt_of_le hgp HB.out.size, fun i hi => (HB.out.cell (p := ⟨gp, off + i, none⟩) hgp).trans (HC.out i hi)⟩⟩ HPV.out).mono ?_; rintro e wy ⟨rfl, hwt⟩
          replace HE := Lib.hid (HE.out.below hwt HE.out.lt); replace HP := Lib.hid (HP.out.below hwt HP.out.lt); replace HZ := Lib.hid (HZ.out.below hwt HZ.out.lt); replace HB := Lib.hid (HB.out.trans (hwt.mono HB.out.size))
          clear hwt cw
          have cl := (HE.out.cell (4 + k)).trans (edgV_getL _ _ _ _ _ k hlt); have fl := HE.out.fr (4 + k)
          go_wp2_with fail
          go_roundw
          case rel =>
            exact ⟨k + 1, by omega, by go_num, HP.out.other (by omega), HZ.out.other (by omega), ((HE.out.set (4 + k) _).cast (edgV_setL _ _ _ _ _ k hlt _)).cast (edgV_congr
              (fun j _ => by
              by_cases e : j = k
              · subst e; rw [if_pos rfl, if_pos (by omega), HA.out]
              · rw [if_neg e]
                by_cases e2 : j < k
                · rw [if_neg e, if_pos e2, if_pos (by omega)]
                · rw [if_neg e, if_neg e2, if_neg (by omega)])
              (fun j _ => by
              by_cases e : j = k
              · subst e; rw [if_pos rfl, if_pos (by omega), HL.out]
              · rw [if_neg e]
                by_cases e2 : j < k
                · rw [if_neg e, if_pos e2, if_pos (by omega)]
                · rw [if_neg e, if_neg e2, if_neg (by omega)])), HB.out.setCell (by show w.heap.size ≤ w.heap.size + 1 + 1; omega) _⟩
          case measure => simp [intOf]; omega
        · have hlt1 : ¬ (k : Int) < 4 := by omega
          have HE := Lib.hid (hE.cast (edgV_congr (a' := edA pw ph b x y top) (b' := edL pw ph b x y) (fun i hi => by rw [if_pos (by omega)]) (fun i hi => by rw [if_pos (by omega)])))
          have HP := Lib.hid hPp; have HZ := Lib.hid hZ; have HB := Lib.hid hB; clear hE hPp hZ hB
          have cu : wr.cell? ⟨w.heap.size + 2, 9, none⟩ = some (.bool true) := HE.out.cell 9
          have cw : wr.cell? ⟨w.heap.size + 2, 10, none⟩ = some (.bool true) := HE.out.cell 10
          go_wp2_with (refine loadP w.heap.size HP.out rfl rfl rfl ?_)
          refine (iAt_any pw ph (x - 1) (y - 1) (.slice (some ⟨gp, off, none⟩) n cv) n b _ ⟨_, _, rfl, hncv, fun _ => ⟨gp, off, rfl, Nat.lt_of_lt_of_le hgp HB.out.size, fun i hi => (HB.out.cell (p := ⟨gp, off + i, none⟩) hgp).trans (HC.out i hi)⟩⟩ HPV.out).mono ?_; rintro e wy ⟨rfl, hwt⟩
          replace HE := Lib.hid (HE.out.below hwt HE.out.lt); replace HP := Lib.hid (HP.out.below hwt HP.out.lt); replace HZ := Lib.hid (HZ.out.below hwt HZ.out.lt); replace HB := Lib.hid (HB.out.trans (hwt.mono HB.out.size))
          clear hwt cu cw
          have cc : wy.cell? ⟨w.heap.size + 2, 8, none⟩ = some (.int .i64 128) := HE.out.cell 8
          have fc := HE.out.fr 8
          obtain ⟨wx, hwx⟩ : ∃ z, z = wy.setCell ⟨w.heap.size + 2, 8, none⟩ (.int .i64 (b (atN pw ph (x - 1) (y - 1)))) := ⟨_, rfl⟩
          have HE2 := Lib.hid (show EdgB wx (w.heap.size + 2) 41 (edgV (edA pw ph b x y top) (edL pw ph b x y) (edC pw ph b x y top) true true) by rw [hwx, HCN.out]; exact (HE.out.set 8 _).cast (by rw [edgV_setC]))
          have HZ2 := Lib.hid (show EdgB wx (w.heap.size + 1) 41 _ by rw [hwx]; exact HZ.out.other (by omega))
          have HB2 := Lib.hid (show Below w.heap.size w wx by rw [hwx]; exact HB.out.setCell (by simp) _)
          have HWX := Lib.hid hwx; clear hwx
          go_upto_region 13 with fail
          rw [← HWX.out]
          clear HWX HE HP HZ HB cc fc
          have HE := HE2; have HZ := HZ2; have HB := HB2; clear HE2 HZ2 HB2
          have hz := HZ.out
          go_wp2_with (first | refine loadE (w.heap.size + 2) HE.out rfl rfl rfl ?_ | refine storeE (w.heap.size + 1) HZ.out rfl rfl rfl rfl ?_)
          exact retE (w.heap.size + 1) Try.results54 (hz.setRow _) rfl rfl ⟨rfl, below_setRow HB.out (by omega) _⟩
    · skip
      rw [show decide (0 < x) = false from decide_eq_false hl]
      have hl2 : x ≤ 0 := by omega
      have HA := Lib.hid (show ∀ k : Nat, edA pw ph b x y top k = b (atN pw ph (x + k) (y - 1)) from fun k => by unfold edA; rw [if_pos hu])
      have HL := Lib.hid (show ∀ k : Nat, edL pw ph b x y k = 128 from fun k => by unfold edL; rw [if_neg hl])
      have HCN := Lib.hid (show edC pw ph b x y top = 128 from by unfold edC; rw [if_neg (by omega)])
      obtain ⟨w0, hw0⟩ : ∃ z, z = (((w.alloc (.cells #[.int .i64 pw, .int .i64 ph, .slice (some ⟨gp, off, none⟩) n cv] 24)).alloc (.cells #[.int .i64 0, .int .i64 0, .int .i64 0, .int .i64 0, .int .i64 0, .int .i64 0, .int .i64 0, .int .i64 0, .int .i64 0, .bool false, .bool false] 41)).alloc (.cells #[.int .i64 0, .int .i64 0, .int .i64 0, .int .i64 0, .int .i64 0, .int .i64 0, .int .i64 0, .int .i64 0, .int .i64 0, .bool false, .bool false] 41)).setRow (w.heap.size + 2) (edgV (fun _ => 0) (fun _ => 0) 128 true false) := ⟨_, rfl⟩
      have hN : EdgB (((w.alloc (.cells #[.int .i64 pw, .int .i64 ph, .slice (some ⟨gp, off, none⟩) n cv] 24)).alloc (.cells #[.int .i64 0, .int .i64 0, .int .i64 0, .int .i64 0, .int .i64 0, .int .i64 0, .int .i64 0, .int .i64 0, .int .i64 0, .bool false, .bool false] 41)).alloc (.cells #[.int .i64 0, .int .i64 0, .int .i64 0, .int .i64 0, .int .i64 0, .int .i64 0, .int .i64 0, .int .i64 0, .int .i64 0, .bool false, .bool false] 41)) (w.heap.size + 2) 41 (edgV (fun _ => 0) (fun _ => 0) 0 false false) := EdgB.new' (by simp)
      have hPp : PicB w0 w.heap.size pw ph (.slice (some ⟨gp, off, none⟩) n cv) := by rw [hw0]; exact (((PicB.new' rfl).alloc _).alloc _).setRowOther _ _ (by omega)
      have hZ : EdgB w0 (w.heap.size + 1) 41 (edgV (fun _ => 0) (fun _ => 0) 0 false false) := by rw [hw0]; exact ((EdgB.new' (by simp)).alloc _).setRowOther _ _ (by omega)
      have hE : EdgB w0 (w.heap.size + 2) 41 (edgV (fun _ => 0) (fun _ => 0) 128 true false) := by rw [hw0]; exact hN.setRow _
      have hB : Below w.heap.size w w0 := by rw [hw0]; exact below_setRow ((((Below.refl _ _).alloc (Nat.le_refl _) _).alloc (by simp) _).alloc (by simp; omega) _) (by omega) _
      have HW := Lib.hid hw0; clear hw0
      have HN := Lib.hid hN; clear hN
      go_enter Try.func54, Try.ntmps54
      go_wp2_with (refine storeE (w.heap.size + 2) HN.out (a' := fun _ => 0) (b' := fun _ => 0) (c' := 128) (u' := true) (v' := false) rfl rfl rfl rfl ?_; rw [← HW.out])
      clear HW HN
      go_loopw [17] (fun i wr => ∃ k : Nat, k ≤ 4 ∧ i = .int .i64 k ∧ PicB wr w.heap.size pw ph (.slice (some ⟨gp, off, none⟩) n cv) ∧ EdgB wr (w.heap.size + 1) 41 (edgV (fun _ => 0) (fun _ => 0) 0 false false) ∧ EdgB wr (w.heap.size + 2) 41 (edgV (fun i => if i < k then edA pw ph b x y top i else 0) (fun i => if i < k then edL pw ph b x y i else 0) 128 true false) ∧ Below w.heap.size w wr) (fun i _ => 4 - (intOf i).toNat)
      case atStart => exact ⟨0, by omega, rfl, hPp, hZ, hE.cast (edgV_congr (fun i _ => by simp) (fun i _ => by simp)), hB⟩
      case round =>
        clear hPp hZ hE hB
        obtain ⟨k, hk, rfl, hPp, hZ, hE, hB⟩ := hrel
        by_cases hlt : k < 4
        · have hlt1 : (k : Int) < 4 := by omega
          have ca := (hE.cell k).trans (edgV_getA _ _ _ _ _ k hlt); have fa := hE.fr k
          have cl := (hE.cell (4 + k)).trans (edgV_getL _ _ _ _ _ k hlt); have fl := hE.fr (4 + k)
          obtain ⟨ws, hws⟩ : ∃ z, z = (wr.setCell ⟨w.heap.size + 2, k, none⟩ (.int .i64 128)).setCell ⟨w.heap.size + 2, 4 + k, none⟩ (.int .i64 128) := ⟨_, rfl⟩
          have HE := Lib.hid (show EdgB ws (w.heap.size + 2) 41 _ by rw [hws]; exact (((hE.set k _).cast (edgV_setA _ _ _ _ _ k hlt _)).set (4 + k) _).cast (edgV_setL _ _ _ _ _ k hlt _))
          have HP := Lib.hid (show PicB ws w.heap.size pw ph _ by rw [hws]; exact (hPp.other (by omega)).other (by omega))
          have HZ := Lib.hid (show EdgB ws (w.heap.size + 1) 41 _ by rw [hws]; exact (hZ.other (by omega)).other (by omega))
          have HB := Lib.hid (show Below w.heap.size w ws by rw [hws]; exact (hB.setCell (by simp) _).setCell (by simp) _)
          have HWS := Lib.hid hws; clear hws hE hPp hZ hB
          go_upto_region 6 with fail
          rw [← HWS.out]
          clear HWS ca fa cl fl
          have cu : ws.cell? ⟨w.heap.size + 2, 9, none⟩ = some (.bool true) := HE.out.cell 9
          have cw : ws.cell? ⟨w.heap.size + 2, 10, none⟩ = some (.bool false) := HE.out.cell 10
          go_wp2_with (refine loadP w.heap.size HP.out rfl rfl rfl ?_)
          refine (iAt_any pw ph (x + k) (y - 1) (.slice (some ⟨gp, off, none⟩) n cv) n b _ ⟨_, _, rfl, hncv, fun _ => ⟨gp, off, rfl, Nat.lt_of_lt_of_le hgp HB.out.size, fun i hi => (HB.out.cell (p := ⟨gp, off + i, none⟩) hgp).trans (HC.out i hi)⟩⟩ HPV.out).mono ?_; rintro e wt ⟨rfl, hwt⟩
          replace HE := Lib.hid (HE.out.below hwt HE.out.lt); replace HP := Lib.hid (HP.out.below hwt HP.out.lt); replace HZ := Lib.hid (HZ.out.below hwt HZ.out.lt); replace HB := Lib.hid (HB.out.trans (hwt.mono HB.out.size))
          clear hwt cu cw
          have ca := (HE.out.cell k).trans (edgV_getA _ _ _ _ _ k hlt); have fa := HE.out.fr k
          obtain ⟨wx, hwx⟩ : ∃ z, z = wt.setCell ⟨w.heap.size + 2, k, none⟩ (.int .i64 (b (atN pw ph (x + k) (y - 1)))) := ⟨_, rfl⟩
          have HE2 := Lib.hid (show EdgB wx (w.heap.size + 2) 41 _ by rw [hwx]; exact (HE.out.set k _).cast (edgV_setA _ _ _ _ _ k hlt _))
          have HP2 := Lib.hid (show PicB wx w.heap.size pw ph _ by rw [hwx]; exact HP.out.other (by omega))
          have HZ2 := Lib.hid (show EdgB wx (w.heap.size + 1) 41 _ by rw [hwx]; exact HZ.out.other (by omega))
          have HB2 := Lib.hid (show Below w.heap.size w wx by rw [hwx]; exact HB.out.setCell (by simp) _)
          have HWX := Lib.hid hwx; clear hwx
          go_upto_region 8 with fail
          rw [← HWX.out]
          clear HWX ca fa HE HP HZ HB
          have HE := HE2; have HP := HP2; have HZ := HZ2; have HB := HB2; clear HE2 HP2 HZ2 HB2
          have cw : wx.cell? ⟨w.heap.size + 2, 10, none⟩ = some (.bool false) := HE.out.cell 10
          go_wp2_with fail
          go_roundw
          case rel =>
            exact ⟨k + 1, by omega, by go_num, HP.out, HZ.out, HE.out.cast (edgV_congr
              (fun j _ => by
              by_cases e : j = k
              · subst e; rw [if_pos rfl, if_pos (by omega), HA.out]
              · rw [if_neg e]
                by_cases e2 : j < k
                · rw [if_neg e, if_pos e2, if_pos (by omega)]
                · rw [if_neg e, if_neg e2, if_neg (by omega)])
              (fun j _ => up_to (HL.out k).symm j)), HB.out⟩
          case measure => simp [intOf]; omega
        · have hlt1 : ¬ (k : Int) < 4 := by omega
          have HE := Lib.hid (hE.cast (edgV_congr (a' := edA pw ph b x y top) (b' := edL pw ph b x y) (fun i hi => by rw [if_pos (by omega)]) (fun i hi => by rw [if_pos (by omega)])))
          have HP := Lib.hid hPp; have HZ := Lib.hid hZ; have HB := Lib.hid hB; clear hE hPp hZ hB
          have cu : wr.cell? ⟨w.heap.size + 2, 9, none⟩ = some (.bool true) := HE.out.cell 9
          have cw : wr.cell? ⟨w.heap.size + 2, 10, none⟩ = some (.bool false) := HE.out.cell 10
          replace HE := Lib.hid (HE.out.cast (by rw [HCN.out]) : EdgB wr (w.heap.size + 2) 41 (edgV (edA pw ph b x y top) (edL pw ph b x y) (edC pw ph b x y top) true false))
          have hz := HZ.out
          go_wp2_with (first | refine loadE (w.heap.size + 2) HE.out rfl rfl rfl ?_ | refine storeE (w.heap.size + 1) HZ.out rfl rfl rfl rfl ?_)
          exact retE (w.heap.size + 1) Try.results54 (hz.setRow _) rfl rfl ⟨rfl, below_setRow HB.out (by omega) _⟩
  · skip
    rw [show decide (top < y) = false from decide_eq_false hu]
    have hu2 : y ≤ top := by omega
    by_cases hl : 0 < x
    · skip
      rw [show decide (0 < x) = true from decide_eq_true hl]
      have HA := Lib.hid (show ∀ k : Nat, edA pw ph b x y top k = 128 from fun k => by unfold edA; rw [if_neg hu])
      have HL := Lib.hid (show ∀ k : Nat, edL pw ph b x y k = b (atN pw ph (x - 1) (y + k)) from fun k => by unfold edL; rw [if_pos hl])
      have HCN := Lib.hid (show edC pw ph b x y top = 128 from by unfold edC; rw [if_neg (by omega)])
      obtain ⟨w0, hw0⟩ : ∃ z, z = (((w.alloc (.cells #[.int .i64 pw, .int .i64 ph, .slice (some ⟨gp, off, none⟩) n cv] 24)).alloc (.cells #[.int .i64 0, .int .i64 0, .int .i64 0, .int .i64 0, .int .i64 0, .int .i64 0, .int .i64 0, .int .i64 0, .int .i64 0, .bool false, .bool false] 41)).alloc (.cells #[.int .i64 0, .int .i64 0, .int .i64 0, .int .i64 0, .int .i64 0, .int .i64 0, .int .i64 0, .int .i64 0, .int .i64 0, .bool false, .bool false] 41)).setRow (w.heap.size + 2) (edgV (fun _ => 0) (fun _ => 0) 128 false true) := ⟨_, rfl⟩
      have hN : EdgB (((w.alloc (.cells #[.int .i64 pw, .int .i64 ph, .slice (some ⟨gp, off, none⟩) n cv] 24)).alloc (.cells #[.int .i64 0, .int .i64 0, .int .i64 0, .int .i64 0, .int .i64 0, .int .i64 0, .int .i64 0, .int .i64 0, .int .i64 0, .bool false, .bool false] 41)).alloc (.cells #[.int .i64 0, .int .i64 0, .int .i64 0, .int .i64 0, .int .i64 0, .int .i64 0, .int .i64 0, .int .i64 0, .int .i64 0, .bool false, .bool false] 41)) (w.heap.size + 2) 41 (edgV (fun _ => 0) (fun _ => 0) 0 false false) := EdgB.new' (by simp)
      have hPp : PicB w0 w.heap.size pw ph (.slice (some ⟨gp, off, none⟩) n cv) := by rw [hw0]; exact (((PicB.new' rfl).alloc _).alloc _).setRowOther _ _ (by omega)
      have hZ : EdgB w0 (w.heap.size + 1) 41 (edgV (fun _ => 0) (fun _ => 0) 0 false false) := by rw [hw0]; exact ((EdgB.new' (by simp)).alloc _).setRowOther _ _ (by omega)
      have hE : EdgB w0 (w.heap.size + 2) 41 (edgV (fun _ => 0) (fun _ => 0) 128 false true) := by rw [hw0]; exact hN.setRow _
      have hB : Below w.heap.size w w0 := by rw [hw0]; exact below_setRow ((((Below.refl _ _).alloc (Nat.le_refl _) _).alloc (by simp) _).alloc (by simp; omega) _) (by omega) _
      have HW := Lib.hid hw0; clear hw0
      have HN := Lib.hid hN; clear hN
      go_enter Try.func54, Try.ntmps54
      go_wp2_with (refine storeE (w.heap.size + 2) HN.out (a' := fun _ => 0) (b' := fun _ => 0) (c' := 128) (u' := false) (v' := true) rfl rfl rfl rfl ?_; rw [← HW.out])
      clear HW HN
      go_loopw [17] (fun i wr => ∃ k : Nat, k ≤ 4 ∧ i = .int .i64 k ∧ PicB wr w.heap.size pw ph (.slice (some ⟨gp, off, none⟩) n cv) ∧ EdgB wr (w.heap.size + 1) 41 (edgV (fun _ => 0) (fun _ => 0) 0 false false) ∧ EdgB wr (w.heap.size + 2) 41 (edgV (fun i => if i < k then edA pw ph b x y top i else 0) (fun i => if i < k then edL pw ph b x y i else 0) 128 false true) ∧ Below w.heap.size w wr) (fun i _ => 4 - (intOf i).toNat)
      case atStart => exact ⟨0, by omega, rfl, hPp, hZ, hE.cast (edgV_congr (fun i _ => by simp) (fun i _ => by simp)), hB⟩
      case round =>
        clear hPp hZ hE hB
        obtain ⟨k, hk, rfl, hPp, hZ, hE, hB⟩ := hrel
        by_cases hlt : k < 4
        · have hlt1 : (k : Int) < 4 := by omega
          have ca := (hE.cell k).trans (edgV_getA _ _ _ _ _ k hlt); have fa := hE.fr k
          have cl := (hE.cell (4 + k)).trans (edgV_getL _ _ _ _ _ k hlt); have fl := hE.fr (4 + k)
          obtain ⟨ws, hws⟩ : ∃ z, z = (wr.setCell ⟨w.heap.size + 2, k, none⟩ (.int .i64 128)).setCell ⟨w.heap.size + 2, 4 + k, none⟩ (.int .i64 128) := ⟨_, rfl⟩
          have HE := Lib.hid (show EdgB ws (w.heap.size + 2) 41 _ by rw [hws]; exact (((hE.set k _).cast (edgV_setA _ _ _ _ _ k hlt _)).set (4 + k) _).cast (edgV_setL _ _ _ _ _ k hlt _))
          have HP := Lib.hid (show PicB ws w.heap.size pw ph _ by rw [hws]; exact (hPp.other (by omega)).other (by omega))
          have HZ := Lib.hid (show EdgB ws (w.heap.size + 1) 41 _ by rw [hws]; exact (hZ.other (by omega)).other (by omega))
          have HB := Lib.hid (show Below w.heap.size w ws by rw [hws]; exact (hB.setCell (by simp) _).setCell (by simp) _)
          have HWS := Lib.hid hws; clear hws hE hPp hZ hB
          go_upto_region 6 with fail
          rw [← HWS.out]
          clear HWS ca fa cl fl
          have cu : ws.cell? ⟨w.heap.size + 2, 9, none⟩ = some (.bool false) := HE.out.cell 9
          have cw : ws.cell? ⟨w.heap.size + 2, 10, none⟩ = some (.bool true) := HE.out.cell 10
          go_wp2_with (refine loadP w.heap.size HP.out rfl rfl rfl ?_)
          refine (iAt_any pw ph (x - 1) (y + k) (.slice (some ⟨gp, off, none⟩) n cv) n b _ ⟨_, _, rfl, hncv, fun _ => ⟨gp, off, rfl, Nat.lt_of_lt_of_le hgp HB.out.size, fun i hi => (HB.out.cell (p := ⟨gp, off + i, none⟩) hgp).trans (HC.out i hi)⟩⟩ HPV.out).mono ?_; rintro e wy ⟨rfl, hwt⟩
          replace HE := Lib.hid (HE.out.below hwt HE.out.lt); replace HP := Lib.hid (HP.out.below hwt HP.out.lt); replace HZ := Lib.hid (HZ.out.below hwt HZ.out.lt); replace HB := Lib.hid (HB.out.trans (hwt.mono HB.out.size))
          clear hwt cw
          have cl := (HE.out.cell (4 + k)).trans (edgV_getL _ _ _ _ _ k hlt); have fl := HE.out.fr (4 + k)
          go_wp2_with fail
          go_roundw
          case rel =>
            exact ⟨k + 1, by omega, by go_num, HP.out.other (by omega), HZ.out.other (by omega), ((HE.out.set (4 + k) _).cast (edgV_setL _ _ _ _ _ k hlt _)).cast (edgV_congr
              (fun j _ => up_to (HA.out k).symm j)
              (fun j _ => by
              by_cases e : j = k
              · subst e; rw [if_pos rfl, if_pos (by omega), HL.out]
              · rw [if_neg e]
                by_cases e2 : j < k
                · rw [if_neg e, if_pos e2, if_pos (by omega)]
                · rw [if_neg e, if_neg e2, if_neg (by omega)])), HB.out.setCell (by show w.heap.size ≤ w.heap.size + 1 + 1; omega) _⟩
          case measure => simp [intOf]; omega
        · have hlt1 : ¬ (k : Int) < 4 := by omega
          have HE := Lib.hid (hE.cast (edgV_congr (a' := edA pw ph b x y top) (b' := edL pw ph b x y) (fun i hi => by rw [if_pos (by omega)]) (fun i hi => by rw [if_pos (by omega)])))
          have HP := Lib.hid hPp; have HZ := Lib.hid hZ; have HB := Lib.hid hB; clear hE hPp hZ hB
          have cu : wr.cell? ⟨w.heap.size + 2, 9, none⟩ = some (.bool false) := HE.out.cell 9
          have cw : wr.cell? ⟨w.heap.size + 2, 10, none⟩ = some (.bool true) := HE.out.cell 10
          replace HE := Lib.hid (HE.out.cast (by rw [HCN.out]) : EdgB wr (w.heap.size + 2) 41 (edgV (edA pw ph b x y top) (edL pw ph b x y) (edC pw ph b x y top) false true))
          have hz := HZ.out
          go_wp2_with (first | refine loadE (w.heap.size + 2) HE.out rfl rfl rfl ?_ | refine storeE (w.heap.size + 1) HZ.out rfl rfl rfl rfl ?_)
          exact retE (w.heap.size + 1) Try.results54 (hz.setRow _) rfl rfl ⟨rfl, below_setRow HB.out (by omega) _⟩
    · skip
      rw [show decide (0 < x) = false from decide_eq_false hl]
      have hl2 : x ≤ 0 := by omega
      have HA := Lib.hid (show ∀ k : Nat, edA pw ph b x y top k = 128 from fun k => by unfold edA; rw [if_neg hu])
      have HL := Lib.hid (show ∀ k : Nat, edL pw ph b x y k = 128 from fun k => by unfold edL; rw [if_neg hl])
      have HCN := Lib.hid (show edC pw ph b x y top = 128 from by unfold edC; rw [if_neg (by omega)])
      obtain ⟨w0, hw0⟩ : ∃ z, z = (((w.alloc (.cells #[.int .i64 pw, .int .i64 ph, .slice (some ⟨gp, off, none⟩) n cv] 24)).alloc (.cells #[.int .i64 0, .int .i64 0, .int .i64 0, .int .i64 0, .int .i64 0, .int .i64 0, .int .i64 0, .int .i64 0, .int .i64 0, .bool false, .bool false] 41)).alloc (.cells #[.int .i64 0, .int .i64 0, .int .i64 0, .int .i64 0, .int .i64 0, .int .i64 0, .int .i64 0, .int .i64 0, .int .i64 0, .bool false, .bool false] 41)).setRow (w.heap.size + 2) (edgV (fun _ => 0) (fun _ => 0) 128 false false) := ⟨_, rfl⟩
      have hN : EdgB (((w.alloc (.cells #[.int .i64 pw, .int .i64 ph, .slice (some ⟨gp, off, none⟩) n cv] 24)).alloc (.cells #[.int .i64 0, .int .i64 0, .int .i64 0, .int .i64 0, .int .i64 0, .int .i64 0, .int .i64 0, .int .i64 0, .int .i64 0, .bool false, .bool false] 41)).alloc (.cells #[.int .i64 0, .int .i64 0, .int .i64 0, .int .i64 0, .int .i64 0, .int .i64 0, .int .i64 0, .int .i64 0, .int .i64 0, .bool false, .bool false] 41)) (w.heap.size + 2) 41 (edgV (fun _ => 0) (fun _ => 0) 0 false false) := EdgB.new' (by simp)
      have hPp : PicB w0 w.heap.size pw ph (.slice (some ⟨gp, off, none⟩) n cv) := by rw [hw0]; exact (((PicB.new' rfl).alloc _).alloc _).setRowOther _ _ (by omega)
      have hZ : EdgB w0 (w.heap.size + 1) 41 (edgV (fun _ => 0) (fun _ => 0) 0 false false) := by rw [hw0]; exact ((EdgB.new' (by simp)).alloc _).setRowOther _ _ (by omega)
      have hE : EdgB w0 (w.heap.size + 2) 41 (edgV (fun _ => 0) (fun _ => 0) 128 false false) := by rw [hw0]; exact hN.setRow _
      have hB : Below w.heap.size w w0 := by rw [hw0]; exact below_setRow ((((Below.refl _ _).alloc (Nat.le_refl _) _).alloc (by simp) _).alloc (by simp; omega) _) (by omega) _
      have HW := Lib.hid hw0; clear hw0
      have HN := Lib.hid hN; clear hN
      go_enter Try.func54, Try.ntmps54
      go_wp2_with (refine storeE (w.heap.size + 2) HN.out (a' := fun _ => 0) (b' := fun _ => 0) (c' := 128) (u' := false) (v' := false) rfl rfl rfl rfl ?_; rw [← HW.out])
      clear HW HN
      go_loopw [17] (fun i wr => ∃ k : Nat, k ≤ 4 ∧ i = .int .i64 k ∧ PicB wr w.heap.size pw ph (.slice (some ⟨gp, off, none⟩) n cv) ∧ EdgB wr (w.heap.size + 1) 41 (edgV (fun _ => 0) (fun _ => 0) 0 false false) ∧ EdgB wr (w.heap.size + 2) 41 (edgV (fun i => if i < k then edA pw ph b x y top i else 0) (fun i => if i < k then edL pw ph b x y i else 0) 128 false false) ∧ Below w.heap.size w wr) (fun i _ => 4 - (intOf i).toNat)
      case atStart => exact ⟨0, by omega, rfl, hPp, hZ, hE.cast (edgV_congr (fun i _ => by simp) (fun i _ => by simp)), hB⟩
      case round =>
        clear hPp hZ hE hB
        obtain ⟨k, hk, rfl, hPp, hZ, hE, hB⟩ := hrel
        by_cases hlt : k < 4
        · have hlt1 : (k : Int) < 4 := by omega
          have ca := (hE.cell k).trans (edgV_getA _ _ _ _ _ k hlt); have fa := hE.fr k
          have cl := (hE.cell (4 + k)).trans (edgV_getL _ _ _ _ _ k hlt); have fl := hE.fr (4 + k)
          obtain ⟨ws, hws⟩ : ∃ z, z = (wr.setCell ⟨w.heap.size + 2, k, none⟩ (.int .i64 128)).setCell ⟨w.heap.size + 2, 4 + k, none⟩ (.int .i64 128) := ⟨_, rfl⟩
          have HE := Lib.hid (show EdgB ws (w.heap.size + 2) 41 _ by rw [hws]; exact (((hE.set k _).cast (edgV_setA _ _ _ _ _ k hlt _)).set (4 + k) _).cast (edgV_setL _ _ _ _ _ k hlt _))
          have HP := Lib.hid (show PicB ws w.heap.size pw ph _ by rw [hws]; exact (hPp.other (by omega)).other (by omega))
          have HZ := Lib.hid (show EdgB ws (w.heap.size + 1) 41 _ by rw [hws]; exact (hZ.other (by omega)).other (by omega))
          have HB := Lib.hid (show Below w.heap.size w ws by rw [hws]; exact (hB.setCell (by simp) _).setCell (by simp) _)
          have HWS := Lib.hid hws; clear hws hE hPp hZ hB
          go_upto_region 6 with fail
          rw [← HWS.out]
          clear HWS ca fa cl fl
          have cu : ws.cell? ⟨w.heap.size + 2, 9, none⟩ = some (.bool false) := HE.out.cell 9
          have cw : ws.cell? ⟨w.heap.size + 2, 10, none⟩ = some (.bool false) := HE.out.cell 10
          go_wp2_with fail
          go_roundw
          case rel =>
            exact ⟨k + 1, by omega, by go_num, HP.out, HZ.out, HE.out.cast (edgV_congr
              (fun j _ => up_to (HA.out k).symm j)
              (fun j _ => up_to (HL.out k).symm j)), HB.out⟩
          case measure => simp [intOf]; omega
        · have hlt1 : ¬ (k : Int) < 4 := by omega
          have HE := Lib.hid (hE.cast (edgV_congr (a' := edA pw ph b x y top) (b' := edL pw ph b x y) (fun i hi => by rw [if_pos (by omega)]) (fun i hi => by rw [if_pos (by omega)])))
          have HP := Lib.hid hPp; have HZ := Lib.hid hZ; have HB := Lib.hid hB; clear hE hPp hZ hB
          have cu : wr.cell? ⟨w.heap.size + 2, 9, none⟩ = some (.bool false) := HE.out.cell 9
          have cw : wr.cell? ⟨w.heap.size + 2, 10, none⟩ = some (.bool false) := HE.out.cell 10
          replace HE := Lib.hid (HE.out.cast (by rw [HCN.out]) : EdgB wr (w.heap.size + 2) 41 (edgV (edA pw ph b x y top) (edL pw ph b x y) (edC pw ph b x y top) false false))
          have hz := HZ.out
          go_wp2_with (first | refine loadE (w.heap.size + 2) HE.out rfl rfl rfl ?_ | refine storeE (w.heap.size + 1) HZ.out rfl rfl rfl rfl ?_)
          exact retE (w.heap.size + 1) Try.results54 (hz.setRow _) rfl rfl ⟨rfl, below_setRow HB.out (by omega) _⟩
set_option maxRecDepth 100000 in
set_option maxHeartbeats 4000000 in
theorem sEdges_any (pw ph x y top : Int) (vv : Value) (n : Nat) (b : Nat → Int) (w : World) (h : Sr .i64 w.heap.size w vv n b) (hp : pvB pw ph n b = true) (x0 : 0 ≤ x) (x1 : x + 4 ≤ pw) (y0 : 0 ≤ y) (y1 : y + 4 ≤ ph) (t0 : 0 ≤ top) (t1 : top ≤ y) :
    Calls Try.prog 53 #[.agg #[.int .i64 pw, .int .i64 ph, vv], .int .i64 x, .int .i64 y, .int .i64 top] w fun e w' => e = .returned (.agg (edgV (edA pw ph b x y top) (edL pw ph b x y) (edC pw ph b x y top) (decide (top < y)) (decide (0 < x)))) ∧ Below w.heap.size w w' := by
  have hps : (8 ≤ pw ∧ pw ≤ 32) ∧ (8 ≤ ph ∧ ph ≤ 32) := by
    have := at_bd hp 0 0
    omega
  obtain ⟨⟨p0, p1⟩, q0, q1⟩ := hps
  have HPV := Lib.hid hp; clear hp
  obtain ⟨av, cv, rfl, hncv, hcl⟩ := h
  obtain ⟨gp, off, rfl, hgp, hcl⟩ := hcl (by have := (at_bd HPV.out 0 0).2.2.2.2.2; omega)
  have HC := Lib.hid hcl; clear hcl
  by_cases hu : top < y
  · skip
    rw [show decide (top < y) = true from decide_eq_true hu]
    by_cases hl : 0 < x
    · skip
      rw [show decide (0 < x) = true from decide_eq_true hl]
      have HA := Lib.hid (show ∀ k : Nat, edA pw ph b x y top k = b (atN pw ph (x + k) (y - 1)) from fun k => by unfold edA; rw [if_pos hu])
      have HL := Lib.hid (show ∀ k : Nat, edL pw ph b x y k = b (atN pw ph (x - 1) (y + k)) from fun k => by unfold edL; rw [if_pos hl])
      have HCN := Lib.hid (show edC pw ph b x y top = b (atN pw ph (x - 1) (y - 1)) from by unfold edC; rw [if_pos ⟨hu, hl⟩])
      obtain ⟨w0, hw0⟩ : ∃ z, z = (((w.alloc (.cells #[.int .i64 pw, .int .i64 ph, .slice (some ⟨gp, off, none⟩) n cv] 24)).alloc (.cells #[.int .i64 0, .int .i64 0, .int .i64 0, .int .i64 0, .int .i64 0, .int .i64 0, .int .i64 0, .int .i64 0, .int .i64 0, .bool false, .bool false] 41)).alloc (.cells #[.int .i64 0, .int .i64 0, .int .i64 0, .int .i64 0, .int .i64 0, .int .i64 0, .int .i64 0, .int .i64 0, .int .i64 0, .bool false, .bool false] 41)).setRow (w.heap.size + 2) (edgV (fun _ => 0) (fun _ => 0) 128 true true) := ⟨_, rfl⟩
      have hN : EdgB (((w.alloc (.cells #[.int .i64 pw, .int .i64 ph, .slice (some ⟨gp, off, none⟩) n cv] 24)).alloc (.cells #[.int .i64 0, .int .i64 0, .int .i64 0, .int .i64 0, .int .i64 0, .int .i64 0, .int .i64 0, .int .i64 0, .int .i64 0, .bool false, .bool false] 41)).alloc (.cells #[.int .i64 0, .int .i64 0, .int .i64 0, .int .i64 0, .int .i64 0, .int .i64 0, .int .i64 0, .int .i64 0, .int .i64 0, .bool false, .bool false] 41)) (w.heap.size + 2) 41 (edgV (fun _ => 0) (fun _ => 0) 0 false false) := EdgB.new' (by simp)
      have hPp : PicB w0 w.heap.size pw ph (.slice (some ⟨gp, off, none⟩) n cv) := by rw [hw0]; exact (((PicB.new' rfl).alloc _).alloc _).setRowOther _ _ (by omega)
      have hZ : EdgB w0 (w.heap.size + 1) 41 (edgV (fun _ => 0) (fun _ => 0) 0 false false) := by rw [hw0]; exact ((EdgB.new' (by simp)).alloc _).setRowOther _ _ (by omega)
      have hE : EdgB w0 (w.heap.size + 2) 41 (edgV (fun _ => 0) (fun _ => 0) 128 true true) := by rw [hw0]; exact hN.setRow _
      have hB : Below w.heap.size w w0 := by rw [hw0]; exact below_setRow ((((Below.refl _ _).alloc (Nat.le_refl _) _).alloc (by simp) _).alloc (by simp; omega) _) (by omega) _
      have HW := Lib.hid hw0; clear hw0
      have HN := Lib.hid hN; clear hN
      go_enter Try.func53, Try.ntmps53
      go_wp2_with (refine storeE (w.heap.size + 2) HN.out (a' := fun _ => 0) (b' := fun _ => 0) (c' := 128) (u' := true) (v' := true) rfl rfl rfl rfl ?_; rw [← HW.out])
      clear HW HN
      go_loopw [10] (fun i wr => ∃ k : Nat, k ≤ 4 ∧ i = .int .i64 k ∧ PicB wr w.heap.size pw ph (.slice (some ⟨gp, off, none⟩) n cv) ∧ EdgB wr (w.heap.size + 1) 41 (edgV (fun _ => 0) (fun _ => 0) 0 false false) ∧ EdgB wr (w.heap.size + 2) 41 (edgV (fun i => if i < k then edA pw ph b x y top i else 0) (fun i => if i < k then edL pw ph b x y i else 0) 128 true true) ∧ Below w.heap.size w wr) (fun i _ => 4 - (intOf i).toNat)
      case atStart => exact ⟨0, by omega, rfl, hPp, hZ, hE.cast (edgV_congr (fun i _ => by simp) (fun i _ => by simp)), hB⟩
      case round =>
        clear hPp hZ hE hB
        obtain ⟨k, hk, rfl, hPp, hZ, hE, hB⟩ := hrel
        by_cases hlt : k < 4
        · have hlt1 : (k : Int) < 4 := by omega
          have ca := (hE.cell k).trans (edgV_getA _ _ _ _ _ k hlt); have fa := hE.fr k
          have cl := (hE.cell (4 + k)).trans (edgV_getL _ _ _ _ _ k hlt); have fl := hE.fr (4 + k)
          obtain ⟨ws, hws⟩ : ∃ z, z = (wr.setCell ⟨w.heap.size + 2, k, none⟩ (.int .i64 128)).setCell ⟨w.heap.size + 2, 4 + k, none⟩ (.int .i64 128) := ⟨_, rfl⟩
          have HE := Lib.hid (show EdgB ws (w.heap.size + 2) 41 _ by rw [hws]; exact (((hE.set k _).cast (edgV_setA _ _ _ _ _ k hlt _)).set (4 + k) _).cast (edgV_setL _ _ _ _ _ k hlt _))
          have HP := Lib.hid (show PicB ws w.heap.size pw ph _ by rw [hws]; exact (hPp.other (by omega)).other (by omega))
          have HZ := Lib.hid (show EdgB ws (w.heap.size + 1) 41 _ by rw [hws]; exact (hZ.other (by omega)).other (by omega))
          have HB := Lib.hid (show Below w.heap.size w ws by rw [hws]; exact (hB.setCell (by simp) _).setCell (by simp) _)
          have HWS := Lib.hid hws; clear hws hE hPp hZ hB
          go_upto_region 7 with fail
          rw [← HWS.out]
          clear HWS ca fa cl fl
          have cu : ws.cell? ⟨w.heap.size + 2, 9, none⟩ = some (.bool true) := HE.out.cell 9
          have cw : ws.cell? ⟨w.heap.size + 2, 10, none⟩ = some (.bool true) := HE.out.cell 10
          obtain ⟨es, em, el⟩ := at_in HPV.out (x := x + k) (y := y - 1) (by omega) (by omega) (by omega) (by omega)
          obtain ⟨au, hau⟩ : ∃ z, atN pw ph (x + k) (y - 1) = z := ⟨_, rfl⟩
          rw [hau] at es el
          have HAu := Lib.hid hau; clear hau
          have cp := (HB.out.cell (p := ⟨gp, off + au, none⟩) hgp).trans (HC.out au el)
          have pl1 : (0 : Int) ≤ (au : Int) := by omega
          have pl2 : (au : Int) < n := by omega
          have f0 := HP.out.c0; have f2 := HP.out.c2
          have w1 : IntKind.i64.wrap (y - 1) = y - 1 := IntWalk.i64_in _ (by omega)
          have w2 : IntKind.i64.wrap ((y - 1) * pw) = (y - 1) * pw := IntWalk.i64_in _ (by omega)
          have w3 : IntKind.i64.wrap ((y - 1) * pw + x) = (y - 1) * pw + x := IntWalk.i64_in _ (by omega)
          have w4 : IntKind.i64.wrap ((y - 1) * pw + x + k) = (au : Int) := by rw [IntWalk.i64_in _ (by omega)]; omega
          have ca := (HE.out.cell k).trans (edgV_getA _ _ _ _ _ k hlt); have fa := HE.out.fr k
          obtain ⟨wx, hwx⟩ : ∃ z, z = ws.setCell ⟨w.heap.size + 2, k, none⟩ (.int .i64 (b au)) := ⟨_, rfl⟩
          have HE2 := Lib.hid (show EdgB wx (w.heap.size + 2) 41 _ by rw [hwx]; exact (HE.out.set k _).cast (edgV_setA _ _ _ _ _ k hlt _))
          have HP2 := Lib.hid (show PicB wx w.heap.size pw ph _ by rw [hwx]; exact HP.out.other (by omega))
          have HZ2 := Lib.hid (show EdgB wx (w.heap.size + 1) 41 _ by rw [hwx]; exact HZ.out.other (by omega))
          have HB2 := Lib.hid (show Below w.heap.size w wx by rw [hwx]; exact HB.out.setCell (by simp) _)
          have HWX := Lib.hid hwx; clear hwx
          go_upto_region 9 with fail
          rw [← HWX.out]
          clear HWX ca fa HE HP HZ HB w1 w2 w3 w4 cp f0 f2 es em el pl1 pl2 cu cw
          have HE := HE2; have HP := HP2; have HZ := HZ2; have HB := HB2; clear HE2 HP2 HZ2 HB2
          have cw : wx.cell? ⟨w.heap.size + 2, 10, none⟩ = some (.bool true) := HE.out.cell 10
          obtain ⟨es, em, el⟩ := at_in HPV.out (x := x - 1) (y := y + k) (by omega) (by omega) (by omega) (by omega)
          obtain ⟨al, hal⟩ : ∃ z, atN pw ph (x - 1) (y + k) = z := ⟨_, rfl⟩
          rw [hal] at es el
          have HAl := Lib.hid hal; clear hal
          have cp := (HB.out.cell (p := ⟨gp, off + al, none⟩) hgp).trans (HC.out al el)
          have pl1 : (0 : Int) ≤ (al : Int) := by omega
          have pl2 : (al : Int) < n := by omega
          have f0 := HP.out.c0; have f2 := HP.out.c2
          have w1 : IntKind.i64.wrap (y + k) = y + k := IntWalk.i64_in _ (by omega)
          have w2 : IntKind.i64.wrap ((y + k) * pw) = (y + k) * pw := IntWalk.i64_in _ (by omega)
          have w3 : IntKind.i64.wrap ((y + k) * pw + x) = (y + k) * pw + x := IntWalk.i64_in _ (by omega)
          have w4 : IntKind.i64.wrap ((y + k) * pw + x - 1) = (al : Int) := by rw [IntWalk.i64_in _ (by omega)]; omega
          have cl := (HE.out.cell (4 + k)).trans (edgV_getL _ _ _ _ _ k hlt); have fl := HE.out.fr (4 + k)
          go_wp2_with fail
          go_roundw
          case rel =>
            exact ⟨k + 1, by omega, by go_num, HP.out.other (by omega), HZ.out.other (by omega), ((HE.out.set (4 + k) _).cast (edgV_setL _ _ _ _ _ k hlt _)).cast (edgV_congr
              (fun j _ => by
              by_cases e : j = k
              · subst e; rw [if_pos rfl, if_pos (by omega), HA.out]; rw [HAu.out]
              · rw [if_neg e]
                by_cases e2 : j < k
                · rw [if_neg e, if_pos e2, if_pos (by omega)]
                · rw [if_neg e, if_neg e2, if_neg (by omega)])
              (fun j _ => by
              by_cases e : j = k
              · subst e; rw [if_pos rfl, if_pos (by omega), HL.out]; rw [HAl.out]
              · rw [if_neg e]
                by_cases e2 : j < k
                · rw [if_neg e, if_pos e2, if_pos (by omega)]
                · rw [if_neg e, if_neg e2, if_neg (by omega)])), HB.out.setCell (by show w.heap.size ≤ w.heap.size + 1 + 1; omega) _⟩
          case measure => simp [intOf]; omega
        · have hlt1 : ¬ (k : Int) < 4 := by omega
          have HE := Lib.hid (hE.cast (edgV_congr (a' := edA pw ph b x y top) (b' := edL pw ph b x y) (fun i hi => by rw [if_pos (by omega)]) (fun i hi => by rw [if_pos (by omega)])))
          have HP := Lib.hid hPp; have HZ := Lib.hid hZ; have HB := Lib.hid hB; clear hE hPp hZ hB
          have cu : wr.cell? ⟨w.heap.size + 2, 9, none⟩ = some (.bool true) := HE.out.cell 9
          have cw : wr.cell? ⟨w.heap.size + 2, 10, none⟩ = some (.bool true) := HE.out.cell 10
          obtain ⟨es, em, el⟩ := at_in HPV.out (x := x - 1) (y := y - 1) (by omega) (by omega) (by omega) (by omega)
          obtain ⟨ac, hac⟩ : ∃ z, atN pw ph (x - 1) (y - 1) = z := ⟨_, rfl⟩
          rw [hac] at es el
          have HAc := Lib.hid hac; clear hac
          have cp := (HB.out.cell (p := ⟨gp, off + ac, none⟩) hgp).trans (HC.out ac el)
          have pl1 : (0 : Int) ≤ (ac : Int) := by omega
          have pl2 : (ac : Int) < n := by omega
          have f0 := HP.out.c0; have f2 := HP.out.c2
          have w1 : IntKind.i64.wrap (y - 1) = y - 1 := IntWalk.i64_in _ (by omega)
          have w2 : IntKind.i64.wrap ((y - 1) * pw) = (y - 1) * pw := IntWalk.i64_in _ (by omega)
          have w3 : IntKind.i64.wrap ((y - 1) * pw + x) = (y - 1) * pw + x := IntWalk.i64_in _ (by omega)
          have w4 : IntKind.i64.wrap ((y - 1) * pw + x - 1) = (ac : Int) := by rw [IntWalk.i64_in _ (by omega)]; omega
          have cc : wr.cell? ⟨w.heap.size + 2, 8, none⟩ = some (.int .i64 128) := HE.out.cell 8
          have fc := HE.out.fr 8
          obtain ⟨wx, hwx⟩ : ∃ z, z = wr.setCell ⟨w.heap.size + 2, 8, none⟩ (.int .i64 (b ac)) := ⟨_, rfl⟩
          have HE2 := Lib.hid (show EdgB wx (w.heap.size + 2) 41 (edgV (edA pw ph b x y top) (edL pw ph b x y) (edC pw ph b x y top) true true) by rw [hwx, HCN.out]; exact (HE.out.set 8 _).cast (by rw [HAc.out]; rw [edgV_setC]))
          have HZ2 := Lib.hid (show EdgB wx (w.heap.size + 1) 41 _ by rw [hwx]; exact HZ.out.other (by omega))
          have HB2 := Lib.hid (show Below w.heap.size w wx by rw [hwx]; exact HB.out.setCell (by simp) _)
          have HWX := Lib.hid hwx; clear hwx
          go_upto_region 13 with fail
          rw [← HWX.out]
          clear HWX HE HP HZ HB cc fc
          have HE := HE2; have HZ := HZ2; have HB := HB2; clear HE2 HZ2 HB2
          have hz := HZ.out
          go_wp2_with (first | refine loadE (w.heap.size + 2) HE.out rfl rfl rfl ?_ | refine storeE (w.heap.size + 1) HZ.out rfl rfl rfl rfl ?_)
          exact retE (w.heap.size + 1) Try.results53 (hz.setRow _) rfl rfl ⟨rfl, below_setRow HB.out (by omega) _⟩
    · skip
      rw [show decide (0 < x) = false from decide_eq_false hl]
      have hl2 : x ≤ 0 := by omega
      have HA := Lib.hid (show ∀ k : Nat, edA pw ph b x y top k = b (atN pw ph (x + k) (y - 1)) from fun k => by unfold edA; rw [if_pos hu])
      have HL := Lib.hid (show ∀ k : Nat, edL pw ph b x y k = 128 from fun k => by unfold edL; rw [if_neg hl])
      have HCN := Lib.hid (show edC pw ph b x y top = 128 from by unfold edC; rw [if_neg (by omega)])
      obtain ⟨w0, hw0⟩ : ∃ z, z = (((w.alloc (.cells #[.int .i64 pw, .int .i64 ph, .slice (some ⟨gp, off, none⟩) n cv] 24)).alloc (.cells #[.int .i64 0, .int .i64 0, .int .i64 0, .int .i64 0, .int .i64 0, .int .i64 0, .int .i64 0, .int .i64 0, .int .i64 0, .bool false, .bool false] 41)).alloc (.cells #[.int .i64 0, .int .i64 0, .int .i64 0, .int .i64 0, .int .i64 0, .int .i64 0, .int .i64 0, .int .i64 0, .int .i64 0, .bool false, .bool false] 41)).setRow (w.heap.size + 2) (edgV (fun _ => 0) (fun _ => 0) 128 true false) := ⟨_, rfl⟩
      have hN : EdgB (((w.alloc (.cells #[.int .i64 pw, .int .i64 ph, .slice (some ⟨gp, off, none⟩) n cv] 24)).alloc (.cells #[.int .i64 0, .int .i64 0, .int .i64 0, .int .i64 0, .int .i64 0, .int .i64 0, .int .i64 0, .int .i64 0, .int .i64 0, .bool false, .bool false] 41)).alloc (.cells #[.int .i64 0, .int .i64 0, .int .i64 0, .int .i64 0, .int .i64 0, .int .i64 0, .int .i64 0, .int .i64 0, .int .i64 0, .bool false, .bool false] 41)) (w.heap.size + 2) 41 (edgV (fun _ => 0) (fun _ => 0) 0 false false) := EdgB.new' (by simp)
      have hPp : PicB w0 w.heap.size pw ph (.slice (some ⟨gp, off, none⟩) n cv) := by rw [hw0]; exact (((PicB.new' rfl).alloc _).alloc _).setRowOther _ _ (by omega)
      have hZ : EdgB w0 (w.heap.size + 1) 41 (edgV (fun _ => 0) (fun _ => 0) 0 false false) := by rw [hw0]; exact ((EdgB.new' (by simp)).alloc _).setRowOther _ _ (by omega)
      have hE : EdgB w0 (w.heap.size + 2) 41 (edgV (fun _ => 0) (fun _ => 0) 128 true false) := by rw [hw0]; exact hN.setRow _
      have hB : Below w.heap.size w w0 := by rw [hw0]; exact below_setRow ((((Below.refl _ _).alloc (Nat.le_refl _) _).alloc (by simp) _).alloc (by simp; omega) _) (by omega) _
      have HW := Lib.hid hw0; clear hw0
      have HN := Lib.hid hN; clear hN
      go_enter Try.func53, Try.ntmps53
      go_wp2_with (refine storeE (w.heap.size + 2) HN.out (a' := fun _ => 0) (b' := fun _ => 0) (c' := 128) (u' := true) (v' := false) rfl rfl rfl rfl ?_; rw [← HW.out])
      clear HW HN
      go_loopw [10] (fun i wr => ∃ k : Nat, k ≤ 4 ∧ i = .int .i64 k ∧ PicB wr w.heap.size pw ph (.slice (some ⟨gp, off, none⟩) n cv) ∧ EdgB wr (w.heap.size + 1) 41 (edgV (fun _ => 0) (fun _ => 0) 0 false false) ∧ EdgB wr (w.heap.size + 2) 41 (edgV (fun i => if i < k then edA pw ph b x y top i else 0) (fun i => if i < k then edL pw ph b x y i else 0) 128 true false) ∧ Below w.heap.size w wr) (fun i _ => 4 - (intOf i).toNat)
      case atStart => exact ⟨0, by omega, rfl, hPp, hZ, hE.cast (edgV_congr (fun i _ => by simp) (fun i _ => by simp)), hB⟩
      case round =>
        clear hPp hZ hE hB
        obtain ⟨k, hk, rfl, hPp, hZ, hE, hB⟩ := hrel
        by_cases hlt : k < 4
        · have hlt1 : (k : Int) < 4 := by omega
          have ca := (hE.cell k).trans (edgV_getA _ _ _ _ _ k hlt); have fa := hE.fr k
          have cl := (hE.cell (4 + k)).trans (edgV_getL _ _ _ _ _ k hlt); have fl := hE.fr (4 + k)
          obtain ⟨ws, hws⟩ : ∃ z, z = (wr.setCell ⟨w.heap.size + 2, k, none⟩ (.int .i64 128)).setCell ⟨w.heap.size + 2, 4 + k, none⟩ (.int .i64 128) := ⟨_, rfl⟩
          have HE := Lib.hid (show EdgB ws (w.heap.size + 2) 41 _ by rw [hws]; exact (((hE.set k _).cast (edgV_setA _ _ _ _ _ k hlt _)).set (4 + k) _).cast (edgV_setL _ _ _ _ _ k hlt _))
          have HP := Lib.hid (show PicB ws w.heap.size pw ph _ by rw [hws]; exact (hPp.other (by omega)).other (by omega))
          have HZ := Lib.hid (show EdgB ws (w.heap.size + 1) 41 _ by rw [hws]; exact (hZ.other (by omega)).other (by omega))
          have HB := Lib.hid (show Below w.heap.size w ws by rw [hws]; exact (hB.setCell (by simp) _).setCell (by simp) _)
          have HWS := Lib.hid hws; clear hws hE hPp hZ hB
          go_upto_region 7 with fail
          rw [← HWS.out]
          clear HWS ca fa cl fl
          have cu : ws.cell? ⟨w.heap.size + 2, 9, none⟩ = some (.bool true) := HE.out.cell 9
          have cw : ws.cell? ⟨w.heap.size + 2, 10, none⟩ = some (.bool false) := HE.out.cell 10
          obtain ⟨es, em, el⟩ := at_in HPV.out (x := x + k) (y := y - 1) (by omega) (by omega) (by omega) (by omega)
          obtain ⟨au, hau⟩ : ∃ z, atN pw ph (x + k) (y - 1) = z := ⟨_, rfl⟩
          rw [hau] at es el
          have HAu := Lib.hid hau; clear hau
          have cp := (HB.out.cell (p := ⟨gp, off + au, none⟩) hgp).trans (HC.out au el)
          have pl1 : (0 : Int) ≤ (au : Int) := by omega
          have pl2 : (au : Int) < n := by omega
          have f0 := HP.out.c0; have f2 := HP.out.c2
          have w1 : IntKind.i64.wrap (y - 1) = y - 1 := IntWalk.i64_in _ (by omega)
          have w2 : IntKind.i64.wrap ((y - 1) * pw) = (y - 1) * pw := IntWalk.i64_in _ (by omega)
          have w3 : IntKind.i64.wrap ((y - 1) * pw + x) = (y - 1) * pw + x := IntWalk.i64_in _ (by omega)
          have w4 : IntKind.i64.wrap ((y - 1) * pw + x + k) = (au : Int) := by rw [IntWalk.i64_in _ (by omega)]; omega
          have ca := (HE.out.cell k).trans (edgV_getA _ _ _ _ _ k hlt); have fa := HE.out.fr k
          obtain ⟨wx, hwx⟩ : ∃ z, z = ws.setCell ⟨w.heap.size + 2, k, none⟩ (.int .i64 (b au)) := ⟨_, rfl⟩
          have HE2 := Lib.hid (show EdgB wx (w.heap.size + 2) 41 _ by rw [hwx]; exact (HE.out.set k _).cast (edgV_setA _ _ _ _ _ k hlt _))
          have HP2 := Lib.hid (show PicB wx w.heap.size pw ph _ by rw [hwx]; exact HP.out.other (by omega))
          have HZ2 := Lib.hid (show EdgB wx (w.heap.size + 1) 41 _ by rw [hwx]; exact HZ.out.other (by omega))
          have HB2 := Lib.hid (show Below w.heap.size w wx by rw [hwx]; exact HB.out.setCell (by simp) _)
          have HWX := Lib.hid hwx; clear hwx
          go_upto_region 9 with fail
          rw [← HWX.out]
          clear HWX ca fa HE HP HZ HB w1 w2 w3 w4 cp f0 f2 es em el pl1 pl2 cu cw
          have HE := HE2; have HP := HP2; have HZ := HZ2; have HB := HB2; clear HE2 HP2 HZ2 HB2
          have cw : wx.cell? ⟨w.heap.size + 2, 10, none⟩ = some (.bool false) := HE.out.cell 10
          go_wp2_with fail
          go_roundw
          case rel =>
            exact ⟨k + 1, by omega, by go_num, HP.out, HZ.out, HE.out.cast (edgV_congr
              (fun j _ => by
              by_cases e : j = k
              · subst e; rw [if_pos rfl, if_pos (by omega), HA.out]; rw [HAu.out]
              · rw [if_neg e]
                by_cases e2 : j < k
                · rw [if_neg e, if_pos e2, if_pos (by omega)]
                · rw [if_neg e, if_neg e2, if_neg (by omega)])
              (fun j _ => up_to (HL.out k).symm j)), HB.out⟩
          case measure => simp [intOf]; omega
        · have hlt1 : ¬ (k : Int) < 4 := by omega
          have HE := Lib.hid (hE.cast (edgV_congr (a' := edA pw ph b x y top) (b' := edL pw ph b x y) (fun i hi => by rw [if_pos (by omega)]) (fun i hi => by rw [if_pos (by omega)])))
          have HP := Lib.hid hPp; have HZ := Lib.hid hZ; have HB := Lib.hid hB; clear hE hPp hZ hB
          have cu : wr.cell? ⟨w.heap.size + 2, 9, none⟩ = some (.bool true) := HE.out.cell 9
          have cw : wr.cell? ⟨w.heap.size + 2, 10, none⟩ = some (.bool false) := HE.out.cell 10
          replace HE := Lib.hid (HE.out.cast (by rw [HCN.out]) : EdgB wr (w.heap.size + 2) 41 (edgV (edA pw ph b x y top) (edL pw ph b x y) (edC pw ph b x y top) true false))
          have hz := HZ.out
          go_wp2_with (first | refine loadE (w.heap.size + 2) HE.out rfl rfl rfl ?_ | refine storeE (w.heap.size + 1) HZ.out rfl rfl rfl rfl ?_)
          exact retE (w.heap.size + 1) Try.results53 (hz.setRow _) rfl rfl ⟨rfl, below_setRow HB.out (by omega) _⟩
  · skip
    rw [show decide (top < y) = false from decide_eq_false hu]
    have hu2 : y ≤ top := by omega
    by_cases hl : 0 < x
    · skip
      rw [show decide (0 < x) = true from decide_eq_true hl]
      have HA := Lib.hid (show ∀ k : Nat, edA pw ph b x y top k = 128 from fun k => by unfold edA; rw [if_neg hu])
      have HL := Lib.hid (show ∀ k : Nat, edL pw ph b x y k = b (atN pw ph (x - 1) (y + k)) from fun k => by unfold edL; rw [if_pos hl])
      have HCN := Lib.hid (show edC pw ph b x y top = 128 from by unfold edC; rw [if_neg (by omega)])
      obtain ⟨w0, hw0⟩ : ∃ z, z = (((w.alloc (.cells #[.int .i64 pw, .int .i64 ph, .slice (some ⟨gp, off, none⟩) n cv] 24)).alloc (.cells #[.int .i64 0, .int .i64 0, .int .i64 0, .int .i64 0, .int .i64 0, .int .i64 0, .int .i64 0, .int .i64 0, .int .i64 0, .bool false, .bool false] 41)).alloc (.cells #[.int .i64 0, .int .i64 0, .int .i64 0, .int .i64 0, .int .i64 0, .int .i64 0, .int .i64 0, .int .i64 0, .int .i64 0, .bool false, .bool false] 41)).setRow (w.heap.size + 2) (edgV (fun _ => 0) (fun _ => 0) 128 false true) := ⟨_, rfl⟩
      have hN : EdgB (((w.alloc (.cells #[.int .i64 pw, .int .i64 ph, .slice (some ⟨gp, off, none⟩) n cv] 24)).alloc (.cells #[.int .i64 0, .int .i64 0, .int .i64 0, .int .i64 0, .int .i64 0, .int .i64 0, .int .i64 0, .int .i64 0, .int .i64 0, .bool false, .bool false] 41)).alloc (.cells #[.int .i64 0, .int .i64 0, .int .i64 0, .int .i64 0, .int .i64 0, .int .i64 0, .int .i64 0, .int .i64 0, .int .i64 0, .bool false, .bool false] 41)) (w.heap.size + 2) 41 (edgV (fun _ => 0) (fun _ => 0) 0 false false) := EdgB.new' (by simp)
      have hPp : PicB w0 w.heap.size pw ph (.slice (some ⟨gp, off, none⟩) n cv) := by rw [hw0]; exact (((PicB.new' rfl).alloc _).alloc _).setRowOther _ _ (by omega)
      have hZ : EdgB w0 (w.heap.size + 1) 41 (edgV (fun _ => 0) (fun _ => 0) 0 false false) := by rw [hw0]; exact ((EdgB.new' (by simp)).alloc _).setRowOther _ _ (by omega)
      have hE : EdgB w0 (w.heap.size + 2) 41 (edgV (fun _ => 0) (fun _ => 0) 128 false true) := by rw [hw0]; exact hN.setRow _
      have hB : Below w.heap.size w w0 := by rw [hw0]; exact below_setRow ((((Below.refl _ _).alloc (Nat.le_refl _) _).alloc (by simp) _).alloc (by simp; omega) _) (by omega) _
      have HW := Lib.hid hw0; clear hw0
      have HN := Lib.hid hN; clear hN
      go_enter Try.func53, Try.ntmps53
      go_wp2_with (refine storeE (w.heap.size + 2) HN.out (a' := fun _ => 0) (b' := fun _ => 0) (c' := 128) (u' := false) (v' := true) rfl rfl rfl rfl ?_; rw [← HW.out])
      clear HW HN
      go_loopw [10] (fun i wr => ∃ k : Nat, k ≤ 4 ∧ i = .int .i64 k ∧ PicB wr w.heap.size pw ph (.slice (some ⟨gp, off, none⟩) n cv) ∧ EdgB wr (w.heap.size + 1) 41 (edgV (fun _ => 0) (fun _ => 0) 0 false false) ∧ EdgB wr (w.heap.size + 2) 41 (edgV (fun i => if i < k then edA pw ph b x y top i else 0) (fun i => if i < k then edL pw ph b x y i else 0) 128 false true) ∧ Below w.heap.size w wr) (fun i _ => 4 - (intOf i).toNat)
      case atStart => exact ⟨0, by omega, rfl, hPp, hZ, hE.cast (edgV_congr (fun i _ => by simp) (fun i _ => by simp)), hB⟩
      case round =>
        clear hPp hZ hE hB
        obtain ⟨k, hk, rfl, hPp, hZ, hE, hB⟩ := hrel
        by_cases hlt : k < 4
        · have hlt1 : (k : Int) < 4 := by omega
          have ca := (hE.cell k).trans (edgV_getA _ _ _ _ _ k hlt); have fa := hE.fr k
          have cl := (hE.cell (4 + k)).trans (edgV_getL _ _ _ _ _ k hlt); have fl := hE.fr (4 + k)
          obtain ⟨ws, hws⟩ : ∃ z, z = (wr.setCell ⟨w.heap.size + 2, k, none⟩ (.int .i64 128)).setCell ⟨w.heap.size + 2, 4 + k, none⟩ (.int .i64 128) := ⟨_, rfl⟩
          have HE := Lib.hid (show EdgB ws (w.heap.size + 2) 41 _ by rw [hws]; exact (((hE.set k _).cast (edgV_setA _ _ _ _ _ k hlt _)).set (4 + k) _).cast (edgV_setL _ _ _ _ _ k hlt _))
          have HP := Lib.hid (show PicB ws w.heap.size pw ph _ by rw [hws]; exact (hPp.other (by omega)).other (by omega))
          have HZ := Lib.hid (show EdgB ws (w.heap.size + 1) 41 _ by rw [hws]; exact (hZ.other (by omega)).other (by omega))
          have HB := Lib.hid (show Below w.heap.size w ws by rw [hws]; exact (hB.setCell (by simp) _).setCell (by simp) _)
          have HWS := Lib.hid hws; clear hws hE hPp hZ hB
          go_upto_region 7 with fail
          rw [← HWS.out]
          clear HWS ca fa cl fl
          have cu : ws.cell? ⟨w.heap.size + 2, 9, none⟩ = some (.bool false) := HE.out.cell 9
          have cw : ws.cell? ⟨w.heap.size + 2, 10, none⟩ = some (.bool true) := HE.out.cell 10
          obtain ⟨es, em, el⟩ := at_in HPV.out (x := x - 1) (y := y + k) (by omega) (by omega) (by omega) (by omega)
          obtain ⟨al, hal⟩ : ∃ z, atN pw ph (x - 1) (y + k) = z := ⟨_, rfl⟩
          rw [hal] at es el
          have HAl := Lib.hid hal; clear hal
          have cp := (HB.out.cell (p := ⟨gp, off + al, none⟩) hgp).trans (HC.out al el)
          have pl1 : (0 : Int) ≤ (al : Int) := by omega
          have pl2 : (al : Int) < n := by omega
          have f0 := HP.out.c0; have f2 := HP.out.c2
          have w1 : IntKind.i64.wrap (y + k) = y + k := IntWalk.i64_in _ (by omega)
          have w2 : IntKind.i64.wrap ((y + k) * pw) = (y + k) * pw := IntWalk.i64_in _ (by omega)
          have w3 : IntKind.i64.wrap ((y + k) * pw + x) = (y + k) * pw + x := IntWalk.i64_in _ (by omega)
          have w4 : IntKind.i64.wrap ((y + k) * pw + x - 1) = (al : Int) := by rw [IntWalk.i64_in _ (by omega)]; omega
          have cl := (HE.out.cell (4 + k)).trans (edgV_getL _ _ _ _ _ k hlt); have fl := HE.out.fr (4 + k)
          go_wp2_with fail
          go_roundw
          case rel =>
            exact ⟨k + 1, by omega, by go_num, HP.out.other (by omega), HZ.out.other (by omega), ((HE.out.set (4 + k) _).cast (edgV_setL _ _ _ _ _ k hlt _)).cast (edgV_congr
              (fun j _ => up_to (HA.out k).symm j)
              (fun j _ => by
              by_cases e : j = k
              · subst e; rw [if_pos rfl, if_pos (by omega), HL.out]; rw [HAl.out]
              · rw [if_neg e]
                by_cases e2 : j < k
                · rw [if_neg e, if_pos e2, if_pos (by omega)]
                · rw [if_neg e, if_neg e2, if_neg (by omega)])), HB.out.setCell (by show w.heap.size ≤ w.heap.size + 1 + 1; omega) _⟩
          case measure => simp [intOf]; omega
        · have hlt1 : ¬ (k : Int) < 4 := by omega
          have HE := Lib.hid (hE.cast (edgV_congr (a' := edA pw ph b x y top) (b' := edL pw ph b x y) (fun i hi => by rw [if_pos (by omega)]) (fun i hi => by rw [if_pos (by omega)])))
          have HP := Lib.hid hPp; have HZ := Lib.hid hZ; have HB := Lib.hid hB; clear hE hPp hZ hB
          have cu : wr.cell? ⟨w.heap.size + 2, 9, none⟩ = some (.bool false) := HE.out.cell 9
          have cw : wr.cell? ⟨w.heap.size + 2, 10, none⟩ = some (.bool true) := HE.out.cell 10
          replace HE := Lib.hid (HE.out.cast (by rw [HCN.out]) : EdgB wr (w.heap.size + 2) 41 (edgV (edA pw ph b x y top) (edL pw ph b x y) (edC pw ph b x y top) false true))
          have hz := HZ.out
          go_wp2_with (first | refine loadE (w.heap.size + 2) HE.out rfl rfl rfl ?_ | refine storeE (w.heap.size + 1) HZ.out rfl rfl rfl rfl ?_)
          exact retE (w.heap.size + 1) Try.results53 (hz.setRow _) rfl rfl ⟨rfl, below_setRow HB.out (by omega) _⟩
    · skip
      rw [show decide (0 < x) = false from decide_eq_false hl]
      have hl2 : x ≤ 0 := by omega
      have HA := Lib.hid (show ∀ k : Nat, edA pw ph b x y top k = 128 from fun k => by unfold edA; rw [if_neg hu])
      have HL := Lib.hid (show ∀ k : Nat, edL pw ph b x y k = 128 from fun k => by unfold edL; rw [if_neg hl])
      have HCN := Lib.hid (show edC pw ph b x y top = 128 from by unfold edC; rw [if_neg (by omega)])
      obtain ⟨w0, hw0⟩ : ∃ z, z = (((w.alloc (.cells #[.int .i64 pw, .int .i64 ph, .slice (some ⟨gp, off, none⟩) n cv] 24)).alloc (.cells #[.int .i64 0, .int .i64 0, .int .i64 0, .int .i64 0, .int .i64 0, .int .i64 0, .int .i64 0, .int .i64 0, .int .i64 0, .bool false, .bool false] 41)).alloc (.cells #[.int .i64 0, .int .i64 0, .int .i64 0, .int .i64 0, .int .i64 0, .int .i64 0, .int .i64 0, .int .i64 0, .int .i64 0, .bool false, .bool false] 41)).setRow (w.heap.size + 2) (edgV (fun _ => 0) (fun _ => 0) 128 false false) := ⟨_, rfl⟩
      have hN : EdgB (((w.alloc (.cells #[.int .i64 pw, .int .i64 ph, .slice (some ⟨gp, off, none⟩) n cv] 24)).alloc (.cells #[.int .i64 0, .int .i64 0, .int .i64 0, .int .i64 0, .int .i64 0, .int .i64 0, .int .i64 0, .int .i64 0, .int .i64 0, .bool false, .bool false] 41)).alloc (.cells #[.int .i64 0, .int .i64 0, .int .i64 0, .int .i64 0, .int .i64 0, .int .i64 0, .int .i64 0, .int .i64 0, .int .i64 0, .bool false, .bool false] 41)) (w.heap.size + 2) 41 (edgV (fun _ => 0) (fun _ => 0) 0 false false) := EdgB.new' (by simp)
      have hPp : PicB w0 w.heap.size pw ph (.slice (some ⟨gp, off, none⟩) n cv) := by rw [hw0]; exact (((PicB.new' rfl).alloc _).alloc _).setRowOther _ _ (by omega)
      have hZ : EdgB w0 (w.heap.size + 1) 41 (edgV (fun _ => 0) (fun _ => 0) 0 false false) := by rw [hw0]; exact ((EdgB.new' (by simp)).alloc _).setRowOther _ _ (by omega)
      have hE : EdgB w0 (w.heap.size + 2) 41 (edgV (fun _ => 0) (fun _ => 0) 128 false false) := by rw [hw0]; exact hN.setRow _
      have hB : Below w.heap.size w w0 := by rw [hw0]; exact below_setRow ((((Below.refl _ _).alloc (Nat.le_refl _) _).alloc (by simp) _).alloc (by simp; omega) _) (by omega) _
      have HW := Lib.hid hw0; clear hw0
      have HN := Lib.hid hN; clear hN
      go_enter Try.func53, Try.ntmps53
      go_wp2_with (refine storeE (w.heap.size + 2) HN.out (a' := fun _ => 0) (b' := fun _ => 0) (c' := 128) (u' := false) (v' := false) rfl rfl rfl rfl ?_; rw [← HW.out])
      clear HW HN
      go_loopw [10] (fun i wr => ∃ k : Nat, k ≤ 4 ∧ i = .int .i64 k ∧ PicB wr w.heap.size pw ph (.slice (some ⟨gp, off, none⟩) n cv) ∧ EdgB wr (w.heap.size + 1) 41 (edgV (fun _ => 0) (fun _ => 0) 0 false false) ∧ EdgB wr (w.heap.size + 2) 41 (edgV (fun i => if i < k then edA pw ph b x y top i else 0) (fun i => if i < k then edL pw ph b x y i else 0) 128 false false) ∧ Below w.heap.size w wr) (fun i _ => 4 - (intOf i).toNat)
      case atStart => exact ⟨0, by omega, rfl, hPp, hZ, hE.cast (edgV_congr (fun i _ => by simp) (fun i _ => by simp)), hB⟩
      case round =>
        clear hPp hZ hE hB
        obtain ⟨k, hk, rfl, hPp, hZ, hE, hB⟩ := hrel
        by_cases hlt : k < 4
        · have hlt1 : (k : Int) < 4 := by omega
          have ca := (hE.cell k).trans (edgV_getA _ _ _ _ _ k hlt); have fa := hE.fr k
          have cl := (hE.cell (4 + k)).trans (edgV_getL _ _ _ _ _ k hlt); have fl := hE.fr (4 + k)
          obtain ⟨ws, hws⟩ : ∃ z, z = (wr.setCell ⟨w.heap.size + 2, k, none⟩ (.int .i64 128)).setCell ⟨w.heap.size + 2, 4 + k, none⟩ (.int .i64 128) := ⟨_, rfl⟩
          have HE := Lib.hid (show EdgB ws (w.heap.size + 2) 41 _ by rw [hws]; exact (((hE.set k _).cast (edgV_setA _ _ _ _ _ k hlt _)).set (4 + k) _).cast (edgV_setL _ _ _ _ _ k hlt _))
          have HP := Lib.hid (show PicB ws w.heap.size pw ph _ by rw [hws]; exact (hPp.other (by omega)).other (by omega))
          have HZ := Lib.hid (show EdgB ws (w.heap.size + 1) 41 _ by rw [hws]; exact (hZ.other (by omega)).other (by omega))
          have HB := Lib.hid (show Below w.heap.size w ws by rw [hws]; exact (hB.setCell (by simp) _).setCell (by simp) _)
          have HWS := Lib.hid hws; clear hws hE hPp hZ hB
          go_upto_region 7 with fail
          rw [← HWS.out]
          clear HWS ca fa cl fl
          have cu : ws.cell? ⟨w.heap.size + 2, 9, none⟩ = some (.bool false) := HE.out.cell 9
          have cw : ws.cell? ⟨w.heap.size + 2, 10, none⟩ = some (.bool false) := HE.out.cell 10
          go_wp2_with fail
          go_roundw
          case rel =>
            exact ⟨k + 1, by omega, by go_num, HP.out, HZ.out, HE.out.cast (edgV_congr
              (fun j _ => up_to (HA.out k).symm j)
              (fun j _ => up_to (HL.out k).symm j)), HB.out⟩
          case measure => simp [intOf]; omega
        · have hlt1 : ¬ (k : Int) < 4 := by omega
          have HE := Lib.hid (hE.cast (edgV_congr (a' := edA pw ph b x y top) (b' := edL pw ph b x y) (fun i hi => by rw [if_pos (by omega)]) (fun i hi => by rw [if_pos (by omega)])))
          have HP := Lib.hid hPp; have HZ := Lib.hid hZ; have HB := Lib.hid hB; clear hE hPp hZ hB
          have cu : wr.cell? ⟨w.heap.size + 2, 9, none⟩ = some (.bool false) := HE.out.cell 9
          have cw : wr.cell? ⟨w.heap.size + 2, 10, none⟩ = some (.bool false) := HE.out.cell 10
          replace HE := Lib.hid (HE.out.cast (by rw [HCN.out]) : EdgB wr (w.heap.size + 2) 41 (edgV (edA pw ph b x y top) (edL pw ph b x y) (edC pw ph b x y top) false false))
          have hz := HZ.out
          go_wp2_with (first | refine loadE (w.heap.size + 2) HE.out rfl rfl rfl ?_ | refine storeE (w.heap.size + 1) HZ.out rfl rfl rfl rfl ?_)
          exact retE (w.heap.size + 1) Try.results53 (hz.setRow _) rfl rfl ⟨rfl, below_setRow HB.out (by omega) _⟩
end Go.Proofs.Ytjogdkeoadkbnaa
