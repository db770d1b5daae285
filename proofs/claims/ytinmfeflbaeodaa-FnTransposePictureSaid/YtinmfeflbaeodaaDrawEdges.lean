/- Drawing edges; the walk of the law on valid edges. -/
import Derived.Test.YtinmfeflbaeodaaEdges
import Derived.Test.YtinmfeflbaeodaaReader
namespace Go.Proofs.Ytinmfeflbaeodaa
open Go.RowKit

theorem slB_mono {B B' : Nat} {w : World} {v : Value} {n : Nat} {b : Nat → Int} (h : SlB B w v n b) (hB : B ≤ B') : SlB B' w v n b := by
  rcases h with h | ⟨g, off, cap, hv, hg, hn, hc⟩
  · exact Or.inl h
  · exact Or.inr ⟨g, off, cap, hv, fun h => Nat.lt_of_lt_of_le (hg h) hB, hn, hc⟩
theorem Rd.setCell {B : Nat} {w : World} {R m : Nat} (h : Rd B w R m) {p : Addr} (hp : R < p.block) (v : Value) : Rd B (w.setCell p v) R m := h.kept fun g hg => heap_setCell_other w p g v (by omega)
theorem Rd.setRow {B : Nat} {w : World} {R m : Nat} (h : Rd B w R m) {g' : Nat} (hp : R < g') (cs : Array Value) : Rd B (w.setRow g' cs) R m := h.kept fun g hg => heap_setRow_other w g' cs g (by omega)
theorem But.setCell {R : Nat} {a w : World} (h : But R a w) {p : Addr} (hp : a.heap.size ≤ p.block) (v : Value) : But R a (w.setCell p v) :=
  ⟨h.os, h.tape, h.output, by have := h.size; simpa [World.setCell] using this, fun k hk hr => (heap_setCell_other w p k v (by omega)).trans (h.block k hk hr)⟩
theorem But.setRow {R : Nat} {a w : World} (h : But R a w) {g : Nat} (hp : a.heap.size ≤ g) (cs : Array Value) : But R a (w.setRow g cs) :=
  have hb := below_setRow (Below.refl g w) (Nat.le_refl _) cs
  ⟨hb.os.trans h.os, hb.tape.trans h.tape, hb.output.trans h.output, Nat.le_trans h.size hb.size, fun k hk hr => (heap_setRow_other w g cs k (by omega)).trans (h.block k hk hr)⟩
theorem EdgB.only {R g : Nat} {w w' : World} {t : TypeId} {cs : Array Value} (h : EdgB w g t cs) (ho : Only R w w') (hg : g ≠ R) : EdgB w' g t cs := (ho.block g hg).trans h
theorem EdgB.setRowOther {w : World} {g : Nat} {t : TypeId} {cs : Array Value} (h : EdgB w g t cs) (g' : Nat) (cs' : Array Value) (hg : g ≠ g') : EdgB (w.setRow g' cs') g t cs := (heap_setRow_other w g' cs' g hg).trans h
theorem EdgB.setRow {w : World} {g : Nat} {t : TypeId} {cs : Array Value} (h : EdgB w g t cs) (cs' : Array Value) : EdgB (w.setRow g cs') g t cs' := heap_setRow_same w g _ _ _ h
theorem edgV_setA (a b : Nat → Int) (c : Int) (u v : Bool) (k : Nat) (hk : k < 4) (x : Int) : (edgV a b c u v).setIfInBounds k (.int .i64 x) = edgV (fun i => if i = k then x else a i) b c u v := by
  rcases (by omega : k = 0 ∨ k = 1 ∨ k = 2 ∨ k = 3) with rfl | rfl | rfl | rfl <;> rfl
theorem edgV_setL (a b : Nat → Int) (c : Int) (u v : Bool) (k : Nat) (hk : k < 4) (x : Int) : (edgV a b c u v).setIfInBounds (4 + k) (.int .i64 x) = edgV a (fun i => if i = k then x else b i) c u v := by
  rcases (by omega : k = 0 ∨ k = 1 ∨ k = 2 ∨ k = 3) with rfl | rfl | rfl | rfl <;> rfl
theorem edgV_getA (a b : Nat → Int) (c : Int) (u v : Bool) (k : Nat) (hk : k < 4) : (edgV a b c u v)[k]? = some (.int .i64 (a k)) := by
  rcases (by omega : k = 0 ∨ k = 1 ∨ k = 2 ∨ k = 3) with rfl | rfl | rfl | rfl <;> rfl
theorem edgV_getL (a b : Nat → Int) (c : Int) (u v : Bool) (k : Nat) (hk : k < 4) : (edgV a b c u v)[4 + k]? = some (.int .i64 (b k)) := by
  rcases (by omega : k = 0 ∨ k = 1 ∨ k = 2 ∨ k = 3) with rfl | rfl | rfl | rfl <;> rfl
theorem edg_zero : (#[.int .i64 0, .int .i64 0, .int .i64 0, .int .i64 0, .int .i64 0, .int .i64 0, .int .i64 0, .int .i64 0, .int .i64 0, .bool false, .bool false] : Array Value) = edgV (fun _ => 0) (fun _ => 0) 0 false false := rfl
theorem infoE (a b : Nat → Int) (c : Int) (u v : Bool) : (Try.prog.info? 44).map (·.size) = some (edgV a b c u v).size := by kernel_rfl
theorem edgV_one (a b : Nat → Int) (c : Int) (u v : Bool) : (edgV a b c u v).all (·.oneCell') = true := by simp [edgV, Value.oneCell']
theorem loadE {ops : Array Oper} {rest : List Oper} {o : Oper} {ac : Act} {w : World} {Q : Exit → Act → World → Prop} {x : Operand} {a b : Nat → Int} {c : Int} {u v : Bool} (g : Nat) (hB : EdgB w g 44 (edgV a b c u v)) (hgd : Region.wanted o (yielded ops ac.tmps) = true) (ho : o.op = .load 44 x)
    (hx : ac.eval x = .pointer (some ⟨g, 0, none⟩)) (h : wpList Try.prog ops Q rest (ac.put o.dst (.agg (edgV a b c u v))) w) : wpList Try.prog ops Q (o :: rest) ac w :=
  wpList_step fun K hK => by rw [if_pos hgd]; exact wp_load_row 44 x ho g hx 44 _ (0, 0) _ hB Try.underlying44 rfl (infoE _ _ _ _ _) (hK _ _ h)
theorem storeE {ops : Array Oper} {rest : List Oper} {o : Oper} {ac : Act} {w : World} {Q : Exit → Act → World → Prop} {x y : Operand} {a b a' b' : Nat → Int} {c c' : Int} {u v u' v' : Bool} (g : Nat) (hB : EdgB w g 44 (edgV a b c u v)) (hgd : o.guard = none) (ho : o.op = .store 44 x y)
    (hx : ac.eval x = .pointer (some ⟨g, 0, none⟩)) (hy : ac.eval y = .agg (edgV a' b' c' u' v')) (h : wpList Try.prog ops Q rest (ac.put o.dst undef) (w.setRow g (edgV a' b' c' u' v'))) : wpList Try.prog ops Q (o :: rest) ac w :=
  wpList_store_row hgd 44 x y ho g _ hx hy 44 _ hB (infoE _ _ _ _ _) rfl (edgV_one _ _ _ _ _) h
theorem retE {fn : Func} {R : Ending → World → Prop} {ac : Act} {w : World} {p : Tmp} {a b : Nat → Int} {c : Int} {u v : Bool} (g : Nat) (hr : fn.results = #[.cell p 44]) (hB : EdgB w g 44 (edgV a b c u v)) (hp : ac.tmps.getD p undef = .pointer (some ⟨g, 0, none⟩)) (hd : ac.defers = [])
    (hR : R (.returned (.agg (edgV a b c u v))) w) : bodyPost Try.prog fn R .ret ac w :=
  bodyPost_ret (results_cell_row hr _ _ g 44 _ (0, 0) _ hp hB Try.underlying44 rfl (infoE _ _ _ _ _)) hd hR

/-- Edges have been drawn. -/
def DrawnE (R : Nat) (w : World) (e : Ending) (w' : World) : Prop := ∃ (a b : Nat → Int) (c : Int) (u v : Bool), e = .returned (.agg (edgV a b c u v)) ∧ But R w w'
set_option maxRecDepth 100000 in
set_option maxHeartbeats 2000000 in
theorem l20Edges_any (B R m : Nat) (n : Int) (w : World) (h : Rd B w R m) (hm : m ≤ 1000) (hn : n ≤ 1000000) (hn0 : 1 ≤ n) :
    Calls Try.prog 51 #[.pointer (some ⟨R, 0, none⟩), .int .i64 n] w (DrawnE R w) := by
  have hR := h.lt
  obtain ⟨w0, hw0⟩ : ∃ w0, w0 = w.alloc (.cells #[.int .i64 0, .int .i64 0, .int .i64 0, .int .i64 0, .int .i64 0, .int .i64 0, .int .i64 0, .int .i64 0, .int .i64 0, .bool false, .bool false] 44) := ⟨_, rfl⟩
  have HZ := Lib.hid (show EdgB w0 w.heap.size 44 (edgV (fun _ => 0) (fun _ => 0) 0 false false) by rw [hw0]; exact EdgB.new' rfl)
  have HR := Lib.hid (show Rd B w0 R (m + 0) by rw [hw0]; exact h.alloc _); clear h
  have HU := Lib.hid (show But R w w0 by rw [hw0]; exact (But.refl _ _).alloc _)
  have hs0 : w.heap.size < w0.heap.size := by rw [hw0]; simp
  have HW := Lib.hid hw0; clear hw0
  go_enter Try.func51, Try.ntmps51
  go_wp2_with fail
  rw [← HW.out]; clear HW
  refine (pick_any _ _ (m + 0) 256 _ HR.out (by omega) (by omega)).mono ?_; rintro e w1 ⟨k1, rfl, p1, q1, hr, ho⟩
  replace HR := Lib.hid hr; clear hr
  replace HU := Lib.hid (HU.out.trans ho.but)
  have z1 : w0.heap.size = w1.heap.size := by have := ho.size; simpa using this.symm
  replace HZ := Lib.hid (HZ.out.only ho (by omega))
  clear ho
  go_wp2_with fail
  refine (pick_any _ _ (m + 1) 3 _ HR.out (by omega) (by omega)).mono ?_; rintro e w2 ⟨k2, rfl, p2, q2, hr, ho⟩
  replace HR := Lib.hid hr; clear hr
  replace HU := Lib.hid (HU.out.trans ho.but)
  have z2 : w1.heap.size = w2.heap.size := by have := ho.size; simpa using this.symm
  replace HZ := Lib.hid (HZ.out.only ho (by omega))
  clear ho
  go_wp2_with fail
  refine (pick_any _ _ (m + 2) 3 _ HR.out (by omega) (by omega)).mono ?_; rintro e w3 ⟨k3, rfl, p3, q3, hr, ho⟩
  replace HR := Lib.hid hr; clear hr
  replace HU := Lib.hid (HU.out.trans ho.but)
  have z3 : w2.heap.size = w3.heap.size := by have := ho.size; simpa using this.symm
  replace HZ := Lib.hid (HZ.out.only ho (by omega))
  clear ho
  go_wp2_with fail
  refine (pick_any _ _ (m + 3) 256 _ (HR.out.alloc _) (by omega) (by omega)).mono ?_; rintro e w4 ⟨k4, rfl, p4, q4, hr, ho⟩
  replace HR := Lib.hid hr; clear hr
  replace HU := Lib.hid ((HU.out.alloc _).trans ho.but)
  have z4 : w3.heap.size + 1 = w4.heap.size := by have := ho.size; simpa using this.symm
  replace HZ := Lib.hid ((HZ.out.alloc _).only ho (by omega))
  have HE := Lib.hid (show EdgB w4 w3.heap.size 44 (edgV (fun _ => 0) (fun _ => 0) k1 (decide (0 < k2)) (decide (0 < k3))) from (EdgB.new' rfl).only ho (by omega))
  clear ho
  obtain ⟨G, hG⟩ : ∃ G, w3.heap.size = G := ⟨_, rfl⟩
  have hG1 : w.heap.size < G := by omega
  have hG2 : G < w4.heap.size := by omega
  rw [hG] at HE
  have HG := Lib.hid hG; clear hG
  go_wp2_with fail
  rw [HG.out]
  clear HG z4 z3 z2 z1 hs0
  generalize k1 = c at *
  generalize decide (0 < k2) = b1 at *
  generalize decide (0 < k3) = b2 at *
  go_loopw [7] (fun i wr => ∃ (k : Nat) (a b : Nat → Int), k ≤ 4 ∧ i = .int .i64 k ∧ Rd B wr R (m + 4 + 4 * k) ∧ But R w wr ∧ EdgB wr w.heap.size 44 (edgV (fun _ => 0) (fun _ => 0) 0 false false) ∧ EdgB wr G 44 (edgV a b c b1 b2)) (fun i _ => 4 - (intOf i).toNat)
  case atStart => exact ⟨0, _, _, by omega, rfl, HR.out.mono (by omega), HU.out, HZ.out, HE.out⟩
  case round =>
    clear HR HU HZ HE
    obtain ⟨k, a, b, hk, rfl, hr, hu, hz, he⟩ := hrel
    have HR := Lib.hid hr; have HU := Lib.hid hu; have HZ := Lib.hid hz; have HE := Lib.hid he
    have hGr := he.lt
    clear hr hu hz he
    by_cases hlt : k < 4
    · have hlt' : (k : Int) < 4 := by omega
      go_wp2_with fail
      refine (pick_any _ _ (m + 4 + 4 * k + 0) 256 _ HR.out (by omega) (by omega)).mono ?_; rintro e w5 ⟨k5, rfl, p5, q5, hr, ho⟩
      replace HR := Lib.hid hr; clear hr
      replace HU := Lib.hid (HU.out.trans ho.but)
      have z5 : wr.heap.size = w5.heap.size := by have := ho.size; simpa using this.symm
      replace HZ := Lib.hid (HZ.out.only ho (by omega))
      replace HE := Lib.hid (HE.out.only ho (by omega))
      clear ho
      go_wp2_with fail
      refine (pick_any _ _ (m + 4 + 4 * k + 1) 2 _ (HR.out.alloc _) (by omega) (by omega)).mono ?_; rintro e w6 ⟨k6, rfl, p6, q6, hr, ho⟩
      replace HR := Lib.hid hr; clear hr
      replace HU := Lib.hid ((HU.out.alloc _).trans ho.but)
      have z6 : w5.heap.size + 1 = w6.heap.size := by have := ho.size; simpa using this.symm
      replace HZ := Lib.hid ((HZ.out.alloc _).only ho (by omega))
      replace HE := Lib.hid ((HE.out.alloc _).only ho (by omega))
      obtain ⟨j6, rfl⟩ := Int.eq_ofNat_of_zero_le p6
      have hj6 : j6 < 2 := by omega
      have hc6 := lit_cell [k5, k4] ((ho.block w5.heap.size (by omega)).trans (heap_alloc_new w5 _)) j6 hj6
      generalize pickL [k5, k4] j6 = v6 at *
      clear ho
      have cA := (HE.out.cell k).trans (edgV_getA a b c b1 b2 k hlt)
      have fA := HE.out.fr k
      go_wp2_with fail
      replace HE := Lib.hid ((HE.out.set k (.int .i64 v6)).cast (edgV_setA a b c b1 b2 k hlt v6))
      replace HZ := Lib.hid (HZ.out.other (g' := G) (k := k) (v := .int .i64 v6) (by omega))
      replace HR := Lib.hid (HR.out.setCell (p := ⟨G, k, none⟩) (by simp; omega) (.int .i64 v6))
      replace HU := Lib.hid (HU.out.setCell (p := ⟨G, k, none⟩) (by simp; omega) (.int .i64 v6))
      clear cA fA
      refine (pick_any _ _ (m + 4 + 4 * k + 2) 256 _ HR.out (by omega) (by omega)).mono ?_; rintro e w7 ⟨k7, rfl, p7, q7, hr, ho⟩
      replace HR := Lib.hid hr; clear hr
      replace HU := Lib.hid (HU.out.trans ho.but)
      have z7 : (w6.setCell ⟨G, k, none⟩ (.int .i64 v6)).heap.size = w7.heap.size := by have := ho.size; simpa using this.symm
      replace HZ := Lib.hid (HZ.out.only ho (by omega))
      replace HE := Lib.hid (HE.out.only ho (by omega))
      clear ho
      have z7a : w6.heap.size = w7.heap.size := by simpa [World.setCell] using z7
      go_wp2_with fail
      refine (pick_any _ _ (m + 4 + 4 * k + 3) 3 _ (HR.out.alloc _) (by omega) (by omega)).mono ?_; rintro e w8 ⟨k8, rfl, p8, q8, hr, ho⟩
      replace HR := Lib.hid hr; clear hr
      replace HU := Lib.hid ((HU.out.alloc _).trans ho.but)
      have z8 : w7.heap.size + 1 = w8.heap.size := by have := ho.size; simpa using this.symm
      replace HZ := Lib.hid ((HZ.out.alloc _).only ho (by omega))
      replace HE := Lib.hid ((HE.out.alloc _).only ho (by omega))
      obtain ⟨j8, rfl⟩ := Int.eq_ofNat_of_zero_le p8
      have hj8 : j8 < 3 := by omega
      have hc8 := lit_cell [k7, k4, 255] ((ho.block w7.heap.size (by omega)).trans (heap_alloc_new w7 _)) j8 hj8
      generalize pickL [k7, k4, 255] j8 = v8 at *
      clear ho
      have cA := (HE.out.cell (4 + k)).trans (edgV_getL _ b c b1 b2 k hlt)
      have fA := HE.out.fr (4 + k)
      go_wp2_with fail
      replace HE := Lib.hid ((HE.out.set (4 + k) (.int .i64 v8)).cast (edgV_setL _ b c b1 b2 k hlt v8))
      replace HZ := Lib.hid (HZ.out.other (g' := G) (k := 4 + k) (v := .int .i64 v8) (by omega))
      replace HR := Lib.hid (HR.out.setCell (p := ⟨G, 4 + k, none⟩) (by simp; omega) (.int .i64 v8))
      replace HU := Lib.hid (HU.out.setCell (p := ⟨G, 4 + k, none⟩) (by simp; omega) (.int .i64 v8))
      clear cA fA
      go_roundw
      case rel => exact ⟨k + 1, _, _, by omega, by go_num, HR.out.mono (by omega), HU.out, HZ.out, HE.out⟩
      case measure => simp [intOf]; omega
    · obtain rfl : k = 4 := by omega
      replace HR := Lib.hid (HR.out.mono (m' := m + 20 + 0) (by omega))
      go_wp2_with fail
      refine (odd_any _ _ (m + 20 + 0) n _ HR.out (by omega) (by omega) (by omega)).mono ?_; rintro e w5 ⟨k5, rfl, hr, ho⟩
      replace HR := Lib.hid hr; clear hr
      replace HU := Lib.hid (HU.out.trans ho.but)
      have z5 : wr.heap.size = w5.heap.size := by have := ho.size; simpa using this.symm
      replace HZ := Lib.hid (HZ.out.only ho (by omega))
      replace HE := Lib.hid (HE.out.only ho (by omega))
      clear ho
      cases k5
      · skip
        go_wp2_with (first | refine loadE G HE.out rfl rfl rfl ?_ | refine storeE w.heap.size HZ.out rfl rfl rfl rfl ?_)
        exact retE w.heap.size Try.results51 (HZ.out.setRow _) rfl rfl ⟨_, _, _, _, _, rfl, HU.out.setRow (g := w.heap.size) (Nat.le_refl _) _⟩
      · skip
        go_wp2_with fail
        refine (pick_any _ _ (m + 20 + 1) 4 _ HR.out (by omega) (by omega)).mono ?_; rintro e w6 ⟨k6, rfl, p6, q6, hr, ho⟩
        replace HR := Lib.hid hr; clear hr
        replace HU := Lib.hid (HU.out.trans ho.but)
        have z6 : w5.heap.size = w6.heap.size := by have := ho.size; simpa using this.symm
        replace HZ := Lib.hid (HZ.out.only ho (by omega))
        replace HE := Lib.hid (HE.out.only ho (by omega))
        clear ho
        go_wp2_with fail
        refine (pick_any _ _ (m + 20 + 2) 2 _ (HR.out.alloc _) (by omega) (by omega)).mono ?_; rintro e w7 ⟨k7, rfl, p7, q7, hr, ho⟩
        replace HR := Lib.hid hr; clear hr
        replace HU := Lib.hid ((HU.out.alloc _).trans ho.but)
        have z7 : w6.heap.size + 1 = w7.heap.size := by have := ho.size; simpa using this.symm
        replace HZ := Lib.hid ((HZ.out.alloc _).only ho (by omega))
        replace HE := Lib.hid ((HE.out.alloc _).only ho (by omega))
        obtain ⟨j7, rfl⟩ := Int.eq_ofNat_of_zero_le p7
        have hj7 : j7 < 2 := by omega
        have hc7 := lit_cell [-1, 256] ((ho.block w6.heap.size (by omega)).trans (heap_alloc_new w6 _)) j7 hj7
        generalize pickL [-1, 256] j7 = v7 at *
        clear ho
        obtain ⟨kk, rfl⟩ := Int.eq_ofNat_of_zero_le p6
        have hkk : kk < 4 := by omega
        have hkk1 : (kk : Int) < 4 := by omega
        have cA := (HE.out.cell kk).trans (edgV_getA a b c b1 b2 kk hkk)
        have fA := HE.out.fr kk
        replace HU := Lib.hid (HU.out.setCell (p := ⟨G, kk, none⟩) (by simp; omega) (.int .i64 v7))
        have HE2 := Lib.hid ((HE.out.set kk (.int .i64 v7)).cast (edgV_setA a b c b1 b2 kk hkk v7)); clear HE
        have HE := HE2; clear HE2
        replace HZ := Lib.hid (HZ.out.other (g' := G) (k := kk) (v := .int .i64 v7) (by omega))
        go_wp2_with (first | refine loadE G HE.out rfl rfl rfl ?_ | refine storeE w.heap.size HZ.out rfl rfl rfl rfl ?_)
        exact retE w.heap.size Try.results51 (HZ.out.setRow _) rfl rfl ⟨_, _, _, _, _, rfl, HU.out.setRow (g := w.heap.size) (Nat.le_refl _) _⟩

/-- Edges have been drawn out of a code. -/
def DrawnE0 (w : World) (e : Ending) (w' : World) : Prop := ∃ (a b : Nat → Int) (c : Int) (u v : Bool), e = .returned (.agg (edgV a b c u v)) ∧ Below w.heap.size w w'
theorem DrawEdgesValid_any (v : Value) (n : Nat) (b : Nat → Int) (w : World) (h : SlB w.heap.size w v n b) (hn : n ≤ 1000000000000) :
    Calls Try.prog 32 #[v] w (DrawnE0 w) := by
  obtain ⟨w0, hw0⟩ : ∃ w0, w0 = w.alloc (.cells #[.int .i64 0, .int .i64 0, .int .i64 0, .int .i64 0, .int .i64 0, .int .i64 0, .int .i64 0, .int .i64 0, .int .i64 0, .bool false, .bool false] 44) := ⟨_, rfl⟩
  have hz : EdgB w0 w.heap.size 44 (edgV (fun _ => 0) (fun _ => 0) 0 false false) := by rw [hw0]; exact EdgB.new' rfl
  have hb0 : Below w.heap.size w w0 := by rw [hw0]; exact (Below.refl _ _).alloc (Nat.le_refl _) _
  have H := Lib.hid (h.kept (w' := w0) hb0.block); clear h
  have hs0 : w.heap.size < w0.heap.size := by rw [hw0]; simp
  have HW := Lib.hid hw0; clear hw0
  have HZ := Lib.hid hz; have HB := Lib.hid hb0; clear hz hb0
  go_enter Try.func32, Try.ntmps32
  go_wp2_with fail
  rw [← HW.out]; clear HW
  refine (l20Open_any v n b _ (slB_mono H.out (by omega)) hn).mono ?_; rintro e w1 ⟨rfl, hr1, hb1, hz1⟩
  have HR1 := Lib.hid hr1
  replace HZ := Lib.hid (HZ.out.below hb1 (by omega))
  replace HB := Lib.hid (HB.out.trans (hb1.mono (by omega)))
  have HZ1 := Lib.hid hz1
  clear hr1 hb1 hz1
  go_wp2_with fail
  refine (l20Edges_any _ _ _ _ _ HR1.out (by omega) (by omega) (by omega)).mono ?_; rintro e w2 ⟨a, b, c, u, v, rfl, hu⟩
  replace HZ := Lib.hid (show EdgB w2 w.heap.size 44 _ from (hu.block _ (by have := HZ1.out; omega) (by omega)).trans HZ.out)
  replace HB := Lib.hid (HB.out.trans (hu.below (B := w.heap.size) (by omega) (by have := HZ1.out; omega)))
  clear hu
  go_wp2_with (refine storeE w.heap.size HZ.out rfl rfl rfl rfl ?_)
  exact retE w.heap.size Try.results32 (HZ.out.setRow _) rfl rfl ⟨_, _, _, _, _, rfl, below_setRow HB.out (Nat.le_refl _) _⟩
theorem edgB_bad (a b : Nat → Int) (c : Int) (h : 255 < c) : edgB a b c = false := by
  unfold edgB
  rw [decide_eq_false (by omega), Bool.and_false]
theorem FnEdgesValid_walk (a : Option Addr) (len cap : Nat) (zs : List Int) (w : World) (h : IsRow .u8 w a len cap zs) :
    Calls Try.prog 10 #[.slice a len cap] w fun e w' => e = .returned (.bool true) ∧ Below w.heap.size w w' := by
  obtain ⟨hs, hm⟩ := h.bytes
  unfold maxLen at hm
  clear h
  by_cases hl : 1048576 < len
  · clear hs
    go_enter Try.func10, Try.ntmps10
    go_wp2
    go_ret
    exact ⟨rfl, Below.refl _ _⟩
  · have HS := Lib.hid hs; clear hs
    go_enter Try.func10, Try.ntmps10
    go_wp2_with fail
    refine (DrawEdgesValid_any _ len _ _ HS.out (by omega)).mono ?_; rintro e w1 ⟨ea, eb, c, u, v, rfl, hb⟩
    have HB := Lib.hid hb
    have hz1 := hb.size
    clear hb HS
    have HN := Lib.hid (show EdgB (w1.alloc (.cells #[.int .i64 0, .int .i64 0, .int .i64 0, .int .i64 0, .int .i64 0, .int .i64 0, .int .i64 0, .int .i64 0, .int .i64 0, .bool false, .bool false] 44)) w1.heap.size 44 (edgV (fun _ => 0) (fun _ => 0) 0 false false) from EdgB.new' rfl)
    obtain ⟨w2, hw⟩ : ∃ x, x = (w1.alloc (.cells #[.int .i64 0, .int .i64 0, .int .i64 0, .int .i64 0, .int .i64 0, .int .i64 0, .int .i64 0, .int .i64 0, .int .i64 0, .bool false, .bool false] 44)).setRow w1.heap.size (edgV ea eb c u v) := ⟨_, rfl⟩
    have HE := Lib.hid (show EdgB w2 w1.heap.size 44 (edgV ea eb c u v) by rw [hw]; exact HN.out.setRow _)
    have hb : Below w1.heap.size w1 w2 := by rw [hw]; exact below_setRow ((Below.refl _ _).alloc (Nat.le_refl _) _) (Nat.le_refl _) _
    have zw2 : w1.heap.size < w2.heap.size := by rw [hw]; simp
    have HW := Lib.hid hw; clear hw
    replace HB := Lib.hid (HB.out.trans (hb.mono (by omega)))
    clear hb
    go_wp2_with (first | (refine storeE w1.heap.size HN.out rfl rfl rfl rfl ?_; rw [← HW.out]) | refine loadE (w1.heap.size) HE.out rfl rfl rfl ?_)
    clear HW HN
    obtain ⟨ok, hok⟩ : ∃ ok, edgB ea eb c = ok := ⟨_, rfl⟩
    have HOK := Lib.hid hok; clear hok
    have hne : (ok != ok) = false := by cases ok <;> rfl
    refine (iEdgesValid_any ea eb c u v _).mono ?_; rintro e w3 ⟨rfl, hb⟩
    have zw3 : w2.heap.size ≤ w3.heap.size := hb.size
    replace HE := Lib.hid (HE.out.below hb (by omega))
    replace HB := Lib.hid (HB.out.trans (hb.mono (by omega)))
    clear hb
    rw [HOK.out]
    go_wp2_with (refine loadE w1.heap.size HE.out rfl rfl rfl ?_)
    refine (sEdgesValid_any ea eb c u v _).mono ?_; rintro e w4 ⟨rfl, hb⟩
    have zw4 : w3.heap.size ≤ w4.heap.size := hb.size
    replace HE := Lib.hid (HE.out.below hb (by omega))
    replace HB := Lib.hid (HB.out.trans (hb.mono (by omega)))
    clear hb
    rw [HOK.out]
    have HE4 := HE
    have HN := Lib.hid (show EdgB (w4.alloc (.cells #[.int .i64 0, .int .i64 0, .int .i64 0, .int .i64 0, .int .i64 0, .int .i64 0, .int .i64 0, .int .i64 0, .int .i64 0, .bool false, .bool false] 44)) w4.heap.size 44 (edgV (fun _ => 0) (fun _ => 0) 0 false false) from EdgB.new' rfl)
    obtain ⟨w5, hw⟩ : ∃ x, x = (w4.alloc (.cells #[.int .i64 0, .int .i64 0, .int .i64 0, .int .i64 0, .int .i64 0, .int .i64 0, .int .i64 0, .int .i64 0, .int .i64 0, .bool false, .bool false] 44)).setRow w4.heap.size (edgV ea eb c u v) := ⟨_, rfl⟩
    have HF := Lib.hid (show EdgB w5 w4.heap.size 44 (edgV ea eb c u v) by rw [hw]; exact HN.out.setRow _)
    have hb : Below w4.heap.size w4 w5 := by rw [hw]; exact below_setRow ((Below.refl _ _).alloc (Nat.le_refl _) _) (Nat.le_refl _) _
    have zw5 : w4.heap.size < w5.heap.size := by rw [hw]; simp
    have HW := Lib.hid hw; clear hw
    replace HE := Lib.hid (HE.out.below hb (by omega))
    replace HB := Lib.hid (HB.out.trans (hb.mono (by omega)))
    clear hb
    have e9 : w5.cell? ⟨w1.heap.size, 9, none⟩ = some (.bool u) := HE.out.cell 9
    have f9 : w5.cell? ⟨w4.heap.size, 9, none⟩ = some (.bool u) := HF.out.cell 9
    have f9f := HF.out.fr 9
    obtain ⟨w6, hw6⟩ : ∃ x, x = w5.setCell ⟨w4.heap.size, 9, none⟩ (.bool (!u)) := ⟨_, rfl⟩
    have HF6 := Lib.hid (show EdgB w6 w4.heap.size 44 (edgV ea eb c (!u) v) by rw [hw6]; exact (HF.out.set 9 _).cast rfl)
    have HE6 := Lib.hid (show EdgB w6 w1.heap.size 44 (edgV ea eb c u v) by rw [hw6]; exact HE.out.other (by omega))
    have HB6 := Lib.hid (show Below w.heap.size w w6 by rw [hw6]; exact HB.out.setCell (by simp; omega) _)
    have zw6 : w4.heap.size < w6.heap.size := by rw [hw6]; simpa [World.setCell] using zw5
    have HW6 := Lib.hid hw6; clear hw6
    have HN7 := Lib.hid (show EdgB (w6.alloc (.cells #[.int .i64 0, .int .i64 0, .int .i64 0, .int .i64 0, .int .i64 0, .int .i64 0, .int .i64 0, .int .i64 0, .int .i64 0, .bool false, .bool false] 44)) w6.heap.size 44 (edgV (fun _ => 0) (fun _ => 0) 0 false false) from EdgB.new' rfl)
    obtain ⟨w7, hw⟩ : ∃ x, x = (w6.alloc (.cells #[.int .i64 0, .int .i64 0, .int .i64 0, .int .i64 0, .int .i64 0, .int .i64 0, .int .i64 0, .int .i64 0, .int .i64 0, .bool false, .bool false] 44)).setRow w6.heap.size (edgV ea eb c u v) := ⟨_, rfl⟩
    have HG7 := Lib.hid (show EdgB w7 w6.heap.size 44 (edgV ea eb c u v) by rw [hw]; exact HN7.out.setRow _)
    have hb : Below w6.heap.size w6 w7 := by rw [hw]; exact below_setRow ((Below.refl _ _).alloc (Nat.le_refl _) _) (Nat.le_refl _) _
    have zw7 : w6.heap.size < w7.heap.size := by rw [hw]; simp
    have HW7 := Lib.hid hw; clear hw
    have HF7 := Lib.hid (HF6.out.below hb (by omega))
    have HB7 := Lib.hid (HB6.out.trans (hb.mono (by omega)))
    clear hb
    have g8 : w7.cell? ⟨w6.heap.size, 8, none⟩ = some (.int .i64 c) := HG7.out.cell 8
    have g8f := HG7.out.fr 8
    obtain ⟨w8, hw8⟩ : ∃ x, x = w7.setCell ⟨w6.heap.size, 8, none⟩ (.int .i64 256) := ⟨_, rfl⟩
    have HG8 := Lib.hid (show EdgB w8 w6.heap.size 44 (edgV ea eb 256 u v) by rw [hw8]; exact (HG7.out.set 8 _).cast rfl)
    have HF8 := Lib.hid (show EdgB w8 w4.heap.size 44 (edgV ea eb c (!u) v) by rw [hw8]; exact HF7.out.other (by omega))
    have HB8 := Lib.hid (show Below w.heap.size w w8 by rw [hw8]; exact HB7.out.setCell (by simp; omega) _)
    have zw8 : w6.heap.size < w8.heap.size := by rw [hw8]; simpa [World.setCell] using zw7
    have HW8 := Lib.hid hw8; clear hw8
    go_upto_region 8 with (first | refine loadE w1.heap.size HE4.out rfl rfl rfl ?_ | (refine storeE w4.heap.size HN.out rfl rfl rfl rfl ?_; rw [← HW.out]))
    clear HW HN HE4
    go_upto_region 9 with fail
    rw [← HW6.out]
    clear HW6 HF HE HB e9 f9 f9f zw5
    go_upto_region 10 with (first | refine loadE w1.heap.size HE6.out rfl rfl rfl ?_ | (refine storeE w6.heap.size HN7.out rfl rfl rfl rfl ?_; rw [← HW7.out]))
    clear HW7 HN7 HE6 HF6 HB6
    go_upto_region 11 with fail
    rw [← HW8.out]
    clear HW8 HG7 HF7 HB7 g8 g8f zw7
    go_wp2_with (refine loadE w4.heap.size HF8.out rfl rfl rfl ?_)
    refine (iEdgesValid_any ea eb c (!u) v _).mono ?_; rintro e w9 ⟨rfl, hb9⟩
    rw [HOK.out]
    have zw9 := hb9.size
    replace HG8 := Lib.hid (HG8.out.below hb9 (by omega))
    replace HB8 := Lib.hid (HB8.out.trans (hb9.mono (by omega)))
    clear hb9
    have heq : (ok == ok) = true := by cases ok <;> rfl
    go_wp2_with (refine loadE w6.heap.size HG8.out rfl rfl rfl ?_)
    refine (iEdgesValid_any ea eb 256 u v _).mono ?_; rintro e w10 ⟨rfl, hb10⟩
    rw [edgB_bad ea eb 256 (by omega)]
    have zw10 := hb10.size
    replace HB8 := Lib.hid (HB8.out.trans (hb10.mono (by omega)))
    clear hb10
    go_wp2_with fail
    refine (alive_any _).mono ?_; rintro e w11 ⟨rfl, hb11⟩
    replace HB8 := Lib.hid (HB8.out.trans (hb11.mono (by omega)))
    clear hb11
    go_wp2_with fail
    go_ret
    exact ⟨rfl, HB8.out⟩
end Go.Proofs.Ytinmfeflbaeodaa
