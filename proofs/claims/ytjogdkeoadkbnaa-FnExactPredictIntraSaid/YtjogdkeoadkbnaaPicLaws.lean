/- The walks of the exact laws on pictures. -/
import Derived.Test.YtjogdkeoadkbnaaPic2
import Derived.Test.YtjogdkeoadkbnaaOpenPic
import Derived.Deep.RegionHeld3
namespace Go.Proofs.Ytjogdkeoadkbnaa
open Go.RowKit

/-- Block g holds the three fields of a picture that came in. -/
def PicL (w : World) (g : Nat) (pw ph : Int) (v : Value) : Prop := w.heap[g]? = some (.cells #[.int .i64 pw, .int .i64 ph, v] 29 (0, 0))
theorem PicL.lt {w : World} {g : Nat} {pw ph : Int} {v : Value} (h : PicL w g pw ph v) : g < w.heap.size := (Array.getElem?_eq_some_iff.1 h).1
theorem PicL.below {B : Nat} {w w' : World} {g : Nat} {pw ph : Int} {v : Value} (h : PicL w g pw ph v) (hb : Below B w w') (hB : g < B) : PicL w' g pw ph v := (hb.block g hB).trans h
theorem PicL.alloc {w : World} {g : Nat} {pw ph : Int} {v : Value} (h : PicL w g pw ph v) (o : Obj) : PicL (w.alloc o) g pw ph v := by
  unfold PicL
  rw [Below.heap_alloc w o g h.lt]; exact h
theorem PicL.new' {w : World} {g : Nat} {pw ph : Int} {v : Value} (hg : g = w.heap.size) : PicL (w.alloc (.cells #[.int .i64 pw, .int .i64 ph, v] 29)) g pw ph v := by subst hg; exact heap_alloc_new w _
theorem PicL.setRowOther {w : World} {g : Nat} {pw ph : Int} {v : Value} (h : PicL w g pw ph v) (g' : Nat) (cs : Array Value) (hg : g ≠ g') : PicL (w.setRow g' cs) g pw ph v := (heap_setRow_other w g' cs g hg).trans h
theorem PicL.mod {lo hi : Nat} {w w' : World} {g : Nat} {pw ph : Int} {v : Value} (h : PicL w g pw ph v) (hm : Mod lo hi w w') (hd : g < lo ∨ hi ≤ g) : PicL w' g pw ph v := (hm.block g hd).trans h
theorem PicB.mod {lo hi : Nat} {w w' : World} {g : Nat} {pw ph : Int} {v : Value} (h : PicB w g pw ph v) (hm : Mod lo hi w w') (hd : g < lo ∨ hi ≤ g) : PicB w' g pw ph v := (hm.block g hd).trans h
theorem infoL (pw ph : Int) (v : Value) : (Try.prog.info? 29).map (·.size) = some (#[.int .i64 pw, .int .i64 ph, v] : Array Value).size := by kernel_rfl
theorem loadL {ops : Array Oper} {rest : List Oper} {o : Oper} {a : Act} {w : World} {Q : Exit → Act → World → Prop} {x : Operand} {pw ph : Int} {v : Value} (g : Nat) (hB : PicL w g pw ph v) (hgd : Region.wanted o (yielded ops a.tmps) = true) (ho : o.op = .load 29 x)
    (hx : a.eval x = .pointer (some ⟨g, 0, none⟩)) (h : wpList Try.prog ops Q rest (a.put o.dst (.agg #[.int .i64 pw, .int .i64 ph, v])) w) : wpList Try.prog ops Q (o :: rest) a w :=
  wpList_step fun K hK => by rw [if_pos hgd]; exact wp_load_row 29 x ho g hx 29 _ (0, 0) _ hB Try.underlying29 rfl (infoL _ _ _) (hK _ _ h)
theorem yieldsL {ops : Array Oper} {S : World → Prop} {op : Oper} {a : Act} {x : Operand} {pw ph : Int} {v : Value} (g : Nat) (hS : ∀ w, S w → PicL w g pw ph v) (hw : Region.wanted op (yielded ops a.tmps) = true) (ho : op.op = .load 29 x)
    (hx : a.eval x = .pointer (some ⟨g, 0, none⟩)) : YieldsIf Try.prog ops S op (.agg #[.int .i64 pw, .int .i64 ph, v]) a :=
  .inl ⟨hw, fun w hw' => by
    unfold execOp
    simp only [ho, hx, Instr.loadAt, Instr.sureAddr, Sem.run_bind, Sem.run_pure, Result.andThen_ok, run_loadVar_row w _ _ _ _ _ _ (hS w hw') Try.underlying29 rfl (infoL _ _ _)]⟩
theorem yieldsP {ops : Array Oper} {S : World → Prop} {op : Oper} {a : Act} {x : Operand} {pw ph : Int} {v : Value} (g : Nat) (hS : ∀ w, S w → PicB w g pw ph v) (hw : Region.wanted op (yielded ops a.tmps) = true) (ho : op.op = .load 24 x)
    (hx : a.eval x = .pointer (some ⟨g, 0, none⟩)) : YieldsIf Try.prog ops S op (.agg #[.int .i64 pw, .int .i64 ph, v]) a :=
  .inl ⟨hw, fun w hw' => by
    unfold execOp
    simp only [ho, hx, Instr.loadAt, Instr.sureAddr, Sem.run_bind, Sem.run_pure, Result.andThen_ok, run_loadVar_row w _ _ _ _ _ _ (hS w hw') Try.underlying24 rfl (infoP _ _ _)]⟩

set_option maxRecDepth 100000 in
set_option maxHeartbeats 2000000 in
theorem FnExactPictureValid_walk (pw ph : Int) (pa : Option Addr) (pl pc : Nat) (pz : List Int) (w : World) (hp : IsPic w pw ph pa pl pc pz) :
    Calls Try.prog 4 #[.agg #[.int .i64 pw, .int .i64 ph, .slice pa pl pc]] w fun e w' => e = .returned (.bool true) ∧ Below w.heap.size w w' := by
  obtain ⟨hsp, hmp, _⟩ := hp.2.2.sr
  generalize (fun i => pz.getD i 0) = pb at *
  clear hp
  obtain ⟨w0, hw0⟩ : ∃ w0, w0 = w.alloc (.cells #[.int .i64 pw, .int .i64 ph, .slice pa pl pc] 29) := ⟨_, rfl⟩
  have hLp : PicL w0 (w.heap.size + 0) pw ph (.slice pa pl pc) := by rw [hw0]; exact PicL.new' rfl
  have hbel : Below w.heap.size w w0 := by rw [hw0]; exact (Below.refl _ _).alloc (Nat.le_refl _) _
  have hs0 : w.heap.size + 0 < w0.heap.size := by rw [hw0]; simp
  have Ap := Lib.hid (hsp.below hbel (Nat.le_refl _)); clear hsp
  have Lp := Lib.hid hLp; clear hLp
  have HB := Lib.hid hbel; clear hbel
  have HW := Lib.hid hw0; clear hw0
  go_enter Try.func4, Try.ntmps4
  go_wp2_with fail
  rw [← HW.out]
  clear HW
  go_wp2_with (refine loadL (w.heap.size + 0) Lp.out rfl rfl rfl ?_)
  refine (szPicture_any _ _ _ _ _ _ _ hmp (by omega) (by omega)).mono ?_; rintro e w1 ⟨rfl, hw1⟩
  have zw1 : w0.heap.size ≤ w1.heap.size := hw1.size
  replace Ap := Lib.hid (Ap.out.below hw1 (by omega))
  replace Lp := Lib.hid (Lp.out.below hw1 (by omega))
  replace HB := Lib.hid (HB.out.trans (hw1.mono (by omega)))
  clear hw1
  by_cases hlp : 1048576 < pl
  · have hneg : leftI 1048576 pl < 0 := by unfold leftI; rw [if_pos (by omega)]; omega
    go_wp2_with fail
    go_ret
    exact ⟨rfl, HB.out⟩
  · obtain ⟨q0, hq0⟩ : ∃ q : Int, leftI 1048576 pl = q := ⟨_, rfl⟩
    rw [hq0]
    have hq0a : 0 ≤ q0 ∧ q0 = 1048576 - pl := by rw [← hq0]; unfold leftI; rw [if_neg (by omega)]; omega
    clear hq0
    have hq00 : 0 ≤ q0 := hq0a.1
    have hq01 : q0 ≤ 1048576 := by omega
    have hlp : pl ≤ 1048576 := by omega
    clear hq0a
    go_wp2_with (refine loadL (w.heap.size + 0) Lp.out rfl rfl rfl ?_)
    refine (toPicture_any _ _ _ pl pb _ (Ap.out.mono (by omega)) (by omega) rfl).mono ?_; rintro e w2 ⟨g1, rfl, k1, b1, hw2⟩
    have zw2 : w1.heap.size ≤ w2.heap.size := hw2.size
    replace Ap := Lib.hid (Ap.out.below hw2 (by omega))
    replace Lp := Lib.hid (Lp.out.below hw2 (by omega))
    replace HB := Lib.hid (HB.out.trans (hw2.mono (by omega)))
    have S1 := Lib.hid (MadeInt.sn k1 b1); clear k1 b1
    clear hw2
    go_wp2_with fail
    refine (sPictureValid_any _ _ _ pl pb _ S1.out.sr (by omega)).mono ?_; rintro e w3 ⟨rfl, hw3⟩
    have zw3 : w2.heap.size ≤ w3.heap.size := hw3.size
    replace Ap := Lib.hid (Ap.out.below hw3 (by omega))
    replace Lp := Lib.hid (Lp.out.below hw3 (by omega))
    replace HB := Lib.hid (HB.out.trans (hw3.mono (by omega)))
    replace S1 := Lib.hid (S1.out.below hw3 (by omega))
    clear hw3
    clear S1
    go_wp2_with (refine loadL (w.heap.size + 0) Lp.out rfl rfl rfl ?_)
    refine (toPicture_any _ _ _ pl pb _ (Ap.out.mono (by omega)) (by omega) rfl).mono ?_; rintro e w4 ⟨g2, rfl, k2, b2, hw4⟩
    have zw4 : w3.heap.size ≤ w4.heap.size := hw4.size
    replace Ap := Lib.hid (Ap.out.below hw4 (by omega))
    replace Lp := Lib.hid (Lp.out.below hw4 (by omega))
    replace HB := Lib.hid (HB.out.trans (hw4.mono (by omega)))
    have S2 := Lib.hid (MadeInt.sn k2 b2); clear k2 b2
    clear hw4
    have HN := Lib.hid (show PicB (w4.alloc (.cells #[.int .i64 0, .int .i64 0, .slice none 0 0] 24)) w4.heap.size 0 0 (.slice none 0 0) from PicB.new' rfl)
    obtain ⟨w5, hw⟩ : ∃ w5, w5 = (w4.alloc (.cells #[.int .i64 0, .int .i64 0, .slice none 0 0] 24)).setRow w4.heap.size #[.int .i64 pw, .int .i64 ph, .slice (some ⟨g2, 0, none⟩) pl pl] := ⟨_, rfl⟩
    have hV : PicB w5 w4.heap.size pw ph (.slice (some ⟨g2, 0, none⟩) pl pl) := by rw [hw]; exact HN.out.setRow _ _ _
    have hw5 : Below w4.heap.size w4 w5 := by rw [hw]; exact below_setRow ((Below.refl _ _).alloc (Nat.le_refl _) _) (Nat.le_refl _) _
    have zw5 : w4.heap.size < w5.heap.size := by rw [hw]; simp
    have HW := Lib.hid hw; clear hw
    replace Ap := Lib.hid (Ap.out.below hw5 (by omega))
    replace Lp := Lib.hid (Lp.out.below hw5 (by omega))
    replace HB := Lib.hid (HB.out.trans (hw5.mono (by omega)))
    replace S2 := Lib.hid (S2.out.below hw5 (by omega))
    have Vx := Lib.hid hV; clear hV hw5
    go_wp2_with (first | (refine storeP w4.heap.size HN.out rfl rfl rfl rfl rfl ?_; rw [← HW.out]) | refine loadP (w4.heap.size) Vx.out rfl rfl rfl ?_)
    clear HW HN
    refine (iPictureValid_any _ _ _ pl pb _ (S2.out.sr.mono (by omega)) (by omega)).mono ?_; rintro e w6 ⟨rfl, hw6⟩
    have zw6 : w5.heap.size ≤ w6.heap.size := hw6.size
    replace Ap := Lib.hid (Ap.out.below hw6 (by omega))
    replace Lp := Lib.hid (Lp.out.below hw6 (by omega))
    replace HB := Lib.hid (HB.out.trans (hw6.mono (by omega)))
    replace S2 := Lib.hid (S2.out.below hw6 (by omega))
    replace Vx := Lib.hid (Vx.out.below hw6 (by omega))
    clear hw6
    go_wp2_with fail
    refine wp_region_held_drew (S := fun w' => Below w6.heap.size w6 w') (by kernel_rfl) (Below.refl _ _).drew (fun hw7 => ?_)
    have Lp0 := Lp
    have Vx0 := Vx
    generalize w6.drew = w7 at hw7 ⊢
    have zw7 : w6.heap.size ≤ w7.heap.size := hw7.size
    replace Ap := Lib.hid (Ap.out.below hw7 (by omega))
    replace Lp := Lib.hid (Lp.out.below hw7 (by omega))
    replace HB := Lib.hid (HB.out.trans (hw7.mono (by omega)))
    replace S2 := Lib.hid (S2.out.below hw7 (by omega))
    replace Vx := Lib.hid (Vx.out.below hw7 (by omega))
    refine wpAnyH_take (i := 0) (v := .agg #[.int .i64 pw, .int .i64 ph, .slice (some ⟨g2, 0, none⟩) pl pl]) rfl (by kernel_rfl) (by kernel_rfl) (by kernel_rfl) (fun _ _ _ h => h) (yieldsP w4.heap.size (fun _ h => Vx0.out.below h (by omega)) (by rfl) rfl rfl) hw7 ?_
    refine wpAnyH_take (i := 1) (v := .agg #[.int .i64 pw, .int .i64 ph, .slice pa pl pc]) rfl (by kernel_rfl) (by kernel_rfl) (by kernel_rfl) (fun _ _ _ h => h) (yieldsL (w.heap.size + 0) (fun _ h => Lp0.out.below h (by omega)) (by rfl) rfl rfl) hw7 ?_
    refine wpAnyH_ready (rs := [2]) (by kernel_rfl) (by simp) ?_
    refine AllReadyH.cons rfl (fun K hK => ?_) AllReadyH.nil
    go_simp
    refine (toPicture_any _ _ _ pl pb _ (Ap.out.mono (by omega)) (by omega) rfl).mono ?_; rintro e w8 ⟨g3, rfl, k3, b3, hw8⟩
    have zw8 : w7.heap.size ≤ w8.heap.size := hw8.size
    replace Ap := Lib.hid (Ap.out.below hw8 (by omega))
    replace Lp := Lib.hid (Lp.out.below hw8 (by omega))
    replace HB := Lib.hid (HB.out.trans (hw8.mono (by omega)))
    replace S2 := Lib.hid (S2.out.below hw8 (by omega))
    replace Vx := Lib.hid (Vx.out.below hw8 (by omega))
    refine hK.out _ _ (hw7.trans (hw8.mono (by omega))) (fun Hw8 => ?_)
    clear hK K hw8 hw7
    have S3 := Lib.hid (MadeInt.sn k3 b3); clear k3 b3
    refine wpAnyH_ready (rs := [3]) (by kernel_rfl) (by simp) ?_
    refine AllReadyH.cons rfl (fun K hK => ?_) AllReadyH.nil
    go_simp
    refine (eqPicture_yes _ _ _ _ pl pb pb _ (S2.out.sr.mono (by omega)) (S3.out.sr.mono (by omega)) (fun _ _ => rfl) (by omega)).mono ?_; rintro e w9 ⟨rfl, hw9⟩
    have zw9 : w8.heap.size ≤ w9.heap.size := hw9.size
    replace Ap := Lib.hid (Ap.out.below hw9 (by omega))
    replace Lp := Lib.hid (Lp.out.below hw9 (by omega))
    replace HB := Lib.hid (HB.out.trans (hw9.mono (by omega)))
    replace S2 := Lib.hid (S2.out.below hw9 (by omega))
    replace Vx := Lib.hid (Vx.out.below hw9 (by omega))
    replace S3 := Lib.hid (S3.out.below hw9 (by omega))
    refine hK.out _ _ (Hw8.trans (hw9.mono (by omega))) (fun Hw9 => ?_)
    clear hK K hw9 Hw8
    refine wpAnyH_ready (rs := [4]) (by kernel_rfl) (by simp) ?_
    refine AllReadyH.cons rfl (fun K hK => ?_) AllReadyH.nil
    go_simp
    refine hK.out _ _ Hw9 (fun _ => ?_)
    clear hK K
    refine wpAnyH_done (by kernel_rfl) ?_ _
    clear Lp0
    clear Vx0
    clear Hw9
    go_wp2_with fail
    go_ret
    exact ⟨rfl, HB.out⟩

set_option maxRecDepth 100000 in
set_option maxHeartbeats 2000000 in
theorem FnExactSampleAt_walk (pw ph : Int) (pa : Option Addr) (pl pc : Nat) (pz : List Int) (x y : Int) (w : World) (hp : IsPic w pw ph pa pl pc pz) (_hx : (Lit.int .i64 x).wf = true) (_hy : (Lit.int .i64 y).wf = true) :
    Calls Try.prog 5 #[.agg #[.int .i64 pw, .int .i64 ph, .slice pa pl pc], .int .i64 x, .int .i64 y] w fun e w' => e = .returned (.bool true) ∧ Below w.heap.size w w' := by
  obtain ⟨hsp, hmp, _⟩ := hp.2.2.sr
  generalize (fun i => pz.getD i 0) = pb at *
  clear hp
  obtain ⟨w0, hw0⟩ : ∃ w0, w0 = w.alloc (.cells #[.int .i64 pw, .int .i64 ph, .slice pa pl pc] 29) := ⟨_, rfl⟩
  have hLp : PicL w0 (w.heap.size + 0) pw ph (.slice pa pl pc) := by rw [hw0]; exact PicL.new' rfl
  have hbel : Below w.heap.size w w0 := by rw [hw0]; exact (Below.refl _ _).alloc (Nat.le_refl _) _
  have hs0 : w.heap.size + 0 < w0.heap.size := by rw [hw0]; simp
  have Ap := Lib.hid (hsp.below hbel (Nat.le_refl _)); clear hsp
  have Lp := Lib.hid hLp; clear hLp
  have HB := Lib.hid hbel; clear hbel
  have HW := Lib.hid hw0; clear hw0
  go_enter Try.func5, Try.ntmps5
  go_wp2_with fail
  rw [← HW.out]
  clear HW
  go_wp2_with (refine loadL (w.heap.size + 0) Lp.out rfl rfl rfl ?_)
  refine (szPicture_any _ _ _ _ _ _ _ hmp (by omega) (by omega)).mono ?_; rintro e w1 ⟨rfl, hw1⟩
  have zw1 : w0.heap.size ≤ w1.heap.size := hw1.size
  replace Ap := Lib.hid (Ap.out.below hw1 (by omega))
  replace Lp := Lib.hid (Lp.out.below hw1 (by omega))
  replace HB := Lib.hid (HB.out.trans (hw1.mono (by omega)))
  clear hw1
  by_cases hlp : 1048576 < pl
  · have hneg : leftI 1048576 pl < 0 := by unfold leftI; rw [if_pos (by omega)]; omega
    go_wp2_with fail
    go_ret
    exact ⟨rfl, HB.out⟩
  · obtain ⟨q0, hq0⟩ : ∃ q : Int, leftI 1048576 pl = q := ⟨_, rfl⟩
    rw [hq0]
    have hq0a : 0 ≤ q0 ∧ q0 = 1048576 - pl := by rw [← hq0]; unfold leftI; rw [if_neg (by omega)]; omega
    clear hq0
    have hq00 : 0 ≤ q0 := hq0a.1
    have hq01 : q0 ≤ 1048576 := by omega
    have hlp : pl ≤ 1048576 := by omega
    clear hq0a
    go_wp2_with (refine loadL (w.heap.size + 0) Lp.out rfl rfl rfl ?_)
    refine (toPicture_any _ _ _ pl pb _ (Ap.out.mono (by omega)) (by omega) rfl).mono ?_; rintro e w2 ⟨g1, rfl, k1, b1, hw2⟩
    have zw2 : w1.heap.size ≤ w2.heap.size := hw2.size
    replace Ap := Lib.hid (Ap.out.below hw2 (by omega))
    replace Lp := Lib.hid (Lp.out.below hw2 (by omega))
    replace HB := Lib.hid (HB.out.trans (hw2.mono (by omega)))
    have S1 := Lib.hid (MadeInt.sn k1 b1); clear k1 b1
    clear hw2
    go_wp2_with fail
    refine (sSampleAt_any _ _ _ _ _ pl pb _ S1.out.sr (by omega)).mono ?_; rintro e w3 ⟨rfl, hw3⟩
    have zw3 : w2.heap.size ≤ w3.heap.size := hw3.size
    replace Ap := Lib.hid (Ap.out.below hw3 (by omega))
    replace Lp := Lib.hid (Lp.out.below hw3 (by omega))
    replace HB := Lib.hid (HB.out.trans (hw3.mono (by omega)))
    replace S1 := Lib.hid (S1.out.below hw3 (by omega))
    clear hw3
    clear S1
    go_wp2_with (refine loadL (w.heap.size + 0) Lp.out rfl rfl rfl ?_)
    refine (toPicture_any _ _ _ pl pb _ (Ap.out.mono (by omega)) (by omega) rfl).mono ?_; rintro e w4 ⟨g2, rfl, k2, b2, hw4⟩
    have zw4 : w3.heap.size ≤ w4.heap.size := hw4.size
    replace Ap := Lib.hid (Ap.out.below hw4 (by omega))
    replace Lp := Lib.hid (Lp.out.below hw4 (by omega))
    replace HB := Lib.hid (HB.out.trans (hw4.mono (by omega)))
    have S2 := Lib.hid (MadeInt.sn k2 b2); clear k2 b2
    clear hw4
    have HN := Lib.hid (show PicB (w4.alloc (.cells #[.int .i64 0, .int .i64 0, .slice none 0 0] 24)) w4.heap.size 0 0 (.slice none 0 0) from PicB.new' rfl)
    obtain ⟨w5, hw⟩ : ∃ w5, w5 = (w4.alloc (.cells #[.int .i64 0, .int .i64 0, .slice none 0 0] 24)).setRow w4.heap.size #[.int .i64 pw, .int .i64 ph, .slice (some ⟨g2, 0, none⟩) pl pl] := ⟨_, rfl⟩
    have hV : PicB w5 w4.heap.size pw ph (.slice (some ⟨g2, 0, none⟩) pl pl) := by rw [hw]; exact HN.out.setRow _ _ _
    have hw5 : Below w4.heap.size w4 w5 := by rw [hw]; exact below_setRow ((Below.refl _ _).alloc (Nat.le_refl _) _) (Nat.le_refl _) _
    have zw5 : w4.heap.size < w5.heap.size := by rw [hw]; simp
    have HW := Lib.hid hw; clear hw
    replace Ap := Lib.hid (Ap.out.below hw5 (by omega))
    replace Lp := Lib.hid (Lp.out.below hw5 (by omega))
    replace HB := Lib.hid (HB.out.trans (hw5.mono (by omega)))
    replace S2 := Lib.hid (S2.out.below hw5 (by omega))
    have Vx := Lib.hid hV; clear hV hw5
    go_wp2_with (first | (refine storeP w4.heap.size HN.out rfl rfl rfl rfl rfl ?_; rw [← HW.out]) | refine loadP (w4.heap.size) Vx.out rfl rfl rfl ?_)
    clear HW HN
    refine (iSampleAt_any _ _ _ _ _ pl pb _ (S2.out.sr.mono (by omega)) (by omega)).mono ?_; rintro e w6 ⟨rfl, hw6⟩
    have zw6 : w5.heap.size ≤ w6.heap.size := hw6.size
    replace Ap := Lib.hid (Ap.out.below hw6 (by omega))
    replace Lp := Lib.hid (Lp.out.below hw6 (by omega))
    replace HB := Lib.hid (HB.out.trans (hw6.mono (by omega)))
    replace S2 := Lib.hid (S2.out.below hw6 (by omega))
    replace Vx := Lib.hid (Vx.out.below hw6 (by omega))
    clear hw6
    go_wp2_with fail
    refine wp_region_held_drew (S := fun w' => Below w6.heap.size w6 w') (by kernel_rfl) (Below.refl _ _).drew (fun hw7 => ?_)
    have Lp0 := Lp
    have Vx0 := Vx
    generalize w6.drew = w7 at hw7 ⊢
    have zw7 : w6.heap.size ≤ w7.heap.size := hw7.size
    replace Ap := Lib.hid (Ap.out.below hw7 (by omega))
    replace Lp := Lib.hid (Lp.out.below hw7 (by omega))
    replace HB := Lib.hid (HB.out.trans (hw7.mono (by omega)))
    replace S2 := Lib.hid (S2.out.below hw7 (by omega))
    replace Vx := Lib.hid (Vx.out.below hw7 (by omega))
    refine wpAnyH_take (i := 0) (v := .agg #[.int .i64 pw, .int .i64 ph, .slice (some ⟨g2, 0, none⟩) pl pl]) rfl (by kernel_rfl) (by kernel_rfl) (by kernel_rfl) (fun _ _ _ h => h) (yieldsP w4.heap.size (fun _ h => Vx0.out.below h (by omega)) (by rfl) rfl rfl) hw7 ?_
    refine wpAnyH_take (i := 1) (v := .agg #[.int .i64 pw, .int .i64 ph, .slice pa pl pc]) rfl (by kernel_rfl) (by kernel_rfl) (by kernel_rfl) (fun _ _ _ h => h) (yieldsL (w.heap.size + 0) (fun _ h => Lp0.out.below h (by omega)) (by rfl) rfl rfl) hw7 ?_
    refine wpAnyH_ready (rs := [2]) (by kernel_rfl) (by simp) ?_
    refine AllReadyH.cons rfl (fun K hK => ?_) AllReadyH.nil
    go_simp
    refine (toPicture_any _ _ _ pl pb _ (Ap.out.mono (by omega)) (by omega) rfl).mono ?_; rintro e w8 ⟨g3, rfl, k3, b3, hw8⟩
    have zw8 : w7.heap.size ≤ w8.heap.size := hw8.size
    replace Ap := Lib.hid (Ap.out.below hw8 (by omega))
    replace Lp := Lib.hid (Lp.out.below hw8 (by omega))
    replace HB := Lib.hid (HB.out.trans (hw8.mono (by omega)))
    replace S2 := Lib.hid (S2.out.below hw8 (by omega))
    replace Vx := Lib.hid (Vx.out.below hw8 (by omega))
    refine hK.out _ _ (hw7.trans (hw8.mono (by omega))) (fun Hw8 => ?_)
    clear hK K hw8 hw7
    have S3 := Lib.hid (MadeInt.sn k3 b3); clear k3 b3
    refine wpAnyH_ready (rs := [3]) (by kernel_rfl) (by simp) ?_
    refine AllReadyH.cons rfl (fun K hK => ?_) AllReadyH.nil
    go_simp
    refine (eqPicture_yes _ _ _ _ pl pb pb _ (S2.out.sr.mono (by omega)) (S3.out.sr.mono (by omega)) (fun _ _ => rfl) (by omega)).mono ?_; rintro e w9 ⟨rfl, hw9⟩
    have zw9 : w8.heap.size ≤ w9.heap.size := hw9.size
    replace Ap := Lib.hid (Ap.out.below hw9 (by omega))
    replace Lp := Lib.hid (Lp.out.below hw9 (by omega))
    replace HB := Lib.hid (HB.out.trans (hw9.mono (by omega)))
    replace S2 := Lib.hid (S2.out.below hw9 (by omega))
    replace Vx := Lib.hid (Vx.out.below hw9 (by omega))
    replace S3 := Lib.hid (S3.out.below hw9 (by omega))
    refine hK.out _ _ (Hw8.trans (hw9.mono (by omega))) (fun Hw9 => ?_)
    clear hK K hw9 Hw8
    refine wpAnyH_ready (rs := [4]) (by kernel_rfl) (by simp) ?_
    refine AllReadyH.cons rfl (fun K hK => ?_) AllReadyH.nil
    go_simp
    refine hK.out _ _ Hw9 (fun _ => ?_)
    clear hK K
    refine wpAnyH_done (by kernel_rfl) ?_ _
    clear Lp0
    clear Vx0
    clear Hw9
    go_wp2_with fail
    go_ret
    exact ⟨rfl, HB.out⟩

set_option maxRecDepth 100000 in
set_option maxHeartbeats 2000000 in
theorem FnExactAbsoluteDifference_walk (pw ph : Int) (pa : Option Addr) (pl pc : Nat) (pz : List Int) (qw qh : Int) (qa : Option Addr) (ql qc : Nat) (qz : List Int) (w : World) (hp : IsPic w pw ph pa pl pc pz) (hq : IsPic w qw qh qa ql qc qz) :
    Calls Try.prog 7 #[.agg #[.int .i64 pw, .int .i64 ph, .slice pa pl pc], .agg #[.int .i64 qw, .int .i64 qh, .slice qa ql qc]] w fun e w' => e = .returned (.bool true) ∧ Below w.heap.size w w' := by
  obtain ⟨hsp, hmp, _⟩ := hp.2.2.sr
  generalize (fun i => pz.getD i 0) = pb at *
  clear hp
  obtain ⟨hsq, hmq, _⟩ := hq.2.2.sr
  generalize (fun i => qz.getD i 0) = qb at *
  clear hq
  obtain ⟨w0, hw0⟩ : ∃ w0, w0 = (w.alloc (.cells #[.int .i64 pw, .int .i64 ph, .slice pa pl pc] 29)).alloc (.cells #[.int .i64 qw, .int .i64 qh, .slice qa ql qc] 29) := ⟨_, rfl⟩
  have hLp : PicL w0 (w.heap.size + 0) pw ph (.slice pa pl pc) := by rw [hw0]; exact (PicL.new' rfl).alloc _
  have hLq : PicL w0 (w.heap.size + 1) qw qh (.slice qa ql qc) := by rw [hw0]; exact PicL.new' (by simp)
  have hbel : Below w.heap.size w w0 := by rw [hw0]; exact ((Below.refl _ _).alloc (Nat.le_refl _) _).alloc (by simp) _
  have hs0 : w.heap.size + 1 < w0.heap.size := by rw [hw0]; simp
  have Ap := Lib.hid (hsp.below hbel (Nat.le_refl _)); clear hsp
  have Lp := Lib.hid hLp; clear hLp
  have Aq := Lib.hid (hsq.below hbel (Nat.le_refl _)); clear hsq
  have Lq := Lib.hid hLq; clear hLq
  have HB := Lib.hid hbel; clear hbel
  have HW := Lib.hid hw0; clear hw0
  go_enter Try.func7, Try.ntmps7
  go_wp2_with fail
  rw [← HW.out]
  clear HW
  go_wp2_with (refine loadL (w.heap.size + 0) Lp.out rfl rfl rfl ?_)
  refine (szPicture_any _ _ _ _ _ _ _ hmp (by omega) (by omega)).mono ?_; rintro e w1 ⟨rfl, hw1⟩
  have zw1 : w0.heap.size ≤ w1.heap.size := hw1.size
  replace Ap := Lib.hid (Ap.out.below hw1 (by omega))
  replace Lp := Lib.hid (Lp.out.below hw1 (by omega))
  replace Aq := Lib.hid (Aq.out.below hw1 (by omega))
  replace Lq := Lib.hid (Lq.out.below hw1 (by omega))
  replace HB := Lib.hid (HB.out.trans (hw1.mono (by omega)))
  clear hw1
  by_cases hlp : 1048576 < pl
  · have hneg : leftI 1048576 pl < 0 := by unfold leftI; rw [if_pos (by omega)]; omega
    go_wp2_with fail
    go_ret
    exact ⟨rfl, HB.out⟩
  · obtain ⟨q0, hq0⟩ : ∃ q : Int, leftI 1048576 pl = q := ⟨_, rfl⟩
    rw [hq0]
    have hq0a : 0 ≤ q0 ∧ q0 = 1048576 - pl := by rw [← hq0]; unfold leftI; rw [if_neg (by omega)]; omega
    clear hq0
    have hq00 : 0 ≤ q0 := hq0a.1
    have hq01 : q0 ≤ 1048576 := by omega
    have hlp : pl ≤ 1048576 := by omega
    have HQ0 := Lib.hid hq0a.2
    clear hq0a
    go_wp2_with (refine loadL (w.heap.size + 1) Lq.out rfl rfl rfl ?_)
    refine (szPicture_any _ _ _ _ _ _ _ hmq (by omega) (by omega)).mono ?_; rintro e w2 ⟨rfl, hw2⟩
    have zw2 : w1.heap.size ≤ w2.heap.size := hw2.size
    replace Ap := Lib.hid (Ap.out.below hw2 (by omega))
    replace Lp := Lib.hid (Lp.out.below hw2 (by omega))
    replace Aq := Lib.hid (Aq.out.below hw2 (by omega))
    replace Lq := Lib.hid (Lq.out.below hw2 (by omega))
    replace HB := Lib.hid (HB.out.trans (hw2.mono (by omega)))
    clear hw2
    by_cases hlq : q0 < ql
    · have hneg : leftI q0 ql < 0 := by unfold leftI; rw [if_pos (by omega)]; omega
      go_wp2_with fail
      go_ret
      exact ⟨rfl, HB.out⟩
    · obtain ⟨q1, hq1⟩ : ∃ q : Int, leftI q0 ql = q := ⟨_, rfl⟩
      rw [hq1]
      have hq1a : 0 ≤ q1 ∧ q1 = q0 - ql := by rw [← hq1]; unfold leftI; rw [if_neg (by omega)]; omega
      clear hq1
      have hq10 : 0 ≤ q1 := hq1a.1
      have hq11 : q1 ≤ 1048576 := by omega
      have hlq : ql ≤ 1048576 := by omega
      clear hq1a
      go_wp2_with fail
      refine wp_region_held_drew (S := fun w' => Below w2.heap.size w2 w') (by kernel_rfl) (Below.refl _ _).drew (fun hw3 => ?_)
      have Lp0 := Lp
      have Lq0 := Lq
      generalize w2.drew = w3 at hw3 ⊢
      have zw3 : w2.heap.size ≤ w3.heap.size := hw3.size
      replace Ap := Lib.hid (Ap.out.below hw3 (by omega))
      replace Lp := Lib.hid (Lp.out.below hw3 (by omega))
      replace Aq := Lib.hid (Aq.out.below hw3 (by omega))
      replace Lq := Lib.hid (Lq.out.below hw3 (by omega))
      replace HB := Lib.hid (HB.out.trans (hw3.mono (by omega)))
      refine wpAnyH_take (i := 0) (v := .agg #[.int .i64 pw, .int .i64 ph, .slice pa pl pc]) rfl (by kernel_rfl) (by kernel_rfl) (by kernel_rfl) (fun _ _ _ h => h) (yieldsL (w.heap.size + 0) (fun _ h => Lp0.out.below h (by omega)) (by rfl) rfl rfl) hw3 ?_
      refine wpAnyH_take (i := 2) (v := .agg #[.int .i64 qw, .int .i64 qh, .slice qa ql qc]) rfl (by kernel_rfl) (by kernel_rfl) (by kernel_rfl) (fun _ _ _ h => h) (yieldsL (w.heap.size + 1) (fun _ h => Lq0.out.below h (by omega)) (by rfl) rfl rfl) hw3 ?_
      refine wpAnyH_ready (rs := [1]) (by kernel_rfl) (by simp) ?_
      refine AllReadyH.cons rfl (fun K hK => ?_) AllReadyH.nil
      go_simp
      refine (toPicture_any _ _ _ pl pb _ (Ap.out.mono (by omega)) (by omega) rfl).mono ?_; rintro e w4 ⟨g1, rfl, k1, b1, hw4⟩
      have zw4 : w3.heap.size ≤ w4.heap.size := hw4.size
      replace Ap := Lib.hid (Ap.out.below hw4 (by omega))
      replace Lp := Lib.hid (Lp.out.below hw4 (by omega))
      replace Aq := Lib.hid (Aq.out.below hw4 (by omega))
      replace Lq := Lib.hid (Lq.out.below hw4 (by omega))
      replace HB := Lib.hid (HB.out.trans (hw4.mono (by omega)))
      refine hK.out _ _ (hw3.trans (hw4.mono (by omega))) (fun Hw4 => ?_)
      clear hK K hw4 hw3
      have S1 := Lib.hid (MadeInt.sn k1 b1); clear k1 b1
      refine wpAnyH_ready (rs := [3]) (by kernel_rfl) (by simp) ?_
      refine AllReadyH.cons rfl (fun K hK => ?_) AllReadyH.nil
      go_simp
      refine (toPicture_any _ _ _ ql qb _ (Aq.out.mono (by omega)) (by omega) rfl).mono ?_; rintro e w5 ⟨g2, rfl, k2, b2, hw5⟩
      have zw5 : w4.heap.size ≤ w5.heap.size := hw5.size
      replace Ap := Lib.hid (Ap.out.below hw5 (by omega))
      replace Lp := Lib.hid (Lp.out.below hw5 (by omega))
      replace Aq := Lib.hid (Aq.out.below hw5 (by omega))
      replace Lq := Lib.hid (Lq.out.below hw5 (by omega))
      replace HB := Lib.hid (HB.out.trans (hw5.mono (by omega)))
      replace S1 := Lib.hid (S1.out.below hw5 (by omega))
      refine hK.out _ _ (Hw4.trans (hw5.mono (by omega))) (fun Hw5 => ?_)
      clear hK K hw5 Hw4
      have S2 := Lib.hid (MadeInt.sn k2 b2); clear k2 b2
      refine wpAnyH_ready (rs := [4]) (by kernel_rfl) (by simp) ?_
      refine AllReadyH.cons rfl (fun K hK => ?_) AllReadyH.nil
      go_simp
      refine (sAbsoluteDifference_any _ _ _ pl pb _ _ _ ql qb _ (S1.out.sr.mono (by omega)) (S2.out.sr.mono (by omega)) (by omega) (by omega)).mono ?_; rintro e w6 ⟨rfl, hw6⟩
      have zw6 : w5.heap.size ≤ w6.heap.size := hw6.size
      replace Ap := Lib.hid (Ap.out.below hw6 (by omega))
      replace Lp := Lib.hid (Lp.out.below hw6 (by omega))
      replace Aq := Lib.hid (Aq.out.below hw6 (by omega))
      replace Lq := Lib.hid (Lq.out.below hw6 (by omega))
      replace HB := Lib.hid (HB.out.trans (hw6.mono (by omega)))
      replace S1 := Lib.hid (S1.out.below hw6 (by omega))
      replace S2 := Lib.hid (S2.out.below hw6 (by omega))
      refine hK.out _ _ (Hw5.trans (hw6.mono (by omega))) (fun Hw6 => ?_)
      clear hK K hw6 Hw5
      refine wpAnyH_ready (rs := [5]) (by kernel_rfl) (by simp) ?_
      refine AllReadyH.cons rfl (fun K hK => ?_) AllReadyH.nil
      go_simp
      refine hK.out _ _ Hw6 (fun _ => ?_)
      clear hK K
      refine wpAnyH_done (by kernel_rfl) ?_ _
      clear Lp0
      clear Lq0
      clear Hw6
      clear S1 S2
      go_wp2_with (refine loadL (w.heap.size + 0) Lp.out rfl rfl rfl ?_)
      refine (toPicture_any _ _ _ pl pb _ (Ap.out.mono (by omega)) (by omega) rfl).mono ?_; rintro e w7 ⟨g3, rfl, k3, b3, hw7⟩
      have zw7 : w6.heap.size ≤ w7.heap.size := hw7.size
      replace Ap := Lib.hid (Ap.out.below hw7 (by omega))
      replace Lp := Lib.hid (Lp.out.below hw7 (by omega))
      replace Aq := Lib.hid (Aq.out.below hw7 (by omega))
      replace Lq := Lib.hid (Lq.out.below hw7 (by omega))
      replace HB := Lib.hid (HB.out.trans (hw7.mono (by omega)))
      have S3 := Lib.hid (MadeInt.sn k3 b3); clear k3 b3
      clear hw7
      have HN := Lib.hid (show PicB (w7.alloc (.cells #[.int .i64 0, .int .i64 0, .slice none 0 0] 24)) w7.heap.size 0 0 (.slice none 0 0) from PicB.new' rfl)
      obtain ⟨w8, hw⟩ : ∃ w8, w8 = (w7.alloc (.cells #[.int .i64 0, .int .i64 0, .slice none 0 0] 24)).setRow w7.heap.size #[.int .i64 pw, .int .i64 ph, .slice (some ⟨g3, 0, none⟩) pl pl] := ⟨_, rfl⟩
      have hV : PicB w8 w7.heap.size pw ph (.slice (some ⟨g3, 0, none⟩) pl pl) := by rw [hw]; exact HN.out.setRow _ _ _
      have hw8 : Below w7.heap.size w7 w8 := by rw [hw]; exact below_setRow ((Below.refl _ _).alloc (Nat.le_refl _) _) (Nat.le_refl _) _
      have zw8 : w7.heap.size < w8.heap.size := by rw [hw]; simp
      have HW := Lib.hid hw; clear hw
      replace Ap := Lib.hid (Ap.out.below hw8 (by omega))
      replace Lp := Lib.hid (Lp.out.below hw8 (by omega))
      replace Aq := Lib.hid (Aq.out.below hw8 (by omega))
      replace Lq := Lib.hid (Lq.out.below hw8 (by omega))
      replace HB := Lib.hid (HB.out.trans (hw8.mono (by omega)))
      replace S3 := Lib.hid (S3.out.below hw8 (by omega))
      have Vx := Lib.hid hV; clear hV hw8
      go_wp2_with (first | (refine storeP w7.heap.size HN.out rfl rfl rfl rfl rfl ?_; rw [← HW.out]) | refine loadL (w.heap.size + 1) Lq.out rfl rfl rfl ?_)
      clear HW HN
      refine (toPicture_any _ _ _ ql qb _ (Aq.out.mono (by omega)) (by omega) rfl).mono ?_; rintro e w9 ⟨g4, rfl, k4, b4, hw9⟩
      have zw9 : w8.heap.size ≤ w9.heap.size := hw9.size
      replace Ap := Lib.hid (Ap.out.below hw9 (by omega))
      replace Lp := Lib.hid (Lp.out.below hw9 (by omega))
      replace Aq := Lib.hid (Aq.out.below hw9 (by omega))
      replace Lq := Lib.hid (Lq.out.below hw9 (by omega))
      replace HB := Lib.hid (HB.out.trans (hw9.mono (by omega)))
      replace S3 := Lib.hid (S3.out.below hw9 (by omega))
      replace Vx := Lib.hid (Vx.out.below hw9 (by omega))
      have S4 := Lib.hid (MadeInt.sn k4 b4); clear k4 b4
      clear hw9
      have HN := Lib.hid (show PicB (w9.alloc (.cells #[.int .i64 0, .int .i64 0, .slice none 0 0] 24)) w9.heap.size 0 0 (.slice none 0 0) from PicB.new' rfl)
      obtain ⟨w10, hw⟩ : ∃ w10, w10 = (w9.alloc (.cells #[.int .i64 0, .int .i64 0, .slice none 0 0] 24)).setRow w9.heap.size #[.int .i64 qw, .int .i64 qh, .slice (some ⟨g4, 0, none⟩) ql ql] := ⟨_, rfl⟩
      have hV : PicB w10 w9.heap.size qw qh (.slice (some ⟨g4, 0, none⟩) ql ql) := by rw [hw]; exact HN.out.setRow _ _ _
      have hw10 : Below w9.heap.size w9 w10 := by rw [hw]; exact below_setRow ((Below.refl _ _).alloc (Nat.le_refl _) _) (Nat.le_refl _) _
      have zw10 : w9.heap.size < w10.heap.size := by rw [hw]; simp
      have HW := Lib.hid hw; clear hw
      replace Ap := Lib.hid (Ap.out.below hw10 (by omega))
      replace Lp := Lib.hid (Lp.out.below hw10 (by omega))
      replace Aq := Lib.hid (Aq.out.below hw10 (by omega))
      replace Lq := Lib.hid (Lq.out.below hw10 (by omega))
      replace HB := Lib.hid (HB.out.trans (hw10.mono (by omega)))
      replace S3 := Lib.hid (S3.out.below hw10 (by omega))
      replace Vx := Lib.hid (Vx.out.below hw10 (by omega))
      replace S4 := Lib.hid (S4.out.below hw10 (by omega))
      have Vy := Lib.hid hV; clear hV hw10
      go_wp2_with (first | (refine storeP w9.heap.size HN.out rfl rfl rfl rfl rfl ?_; rw [← HW.out]) | refine loadP (w7.heap.size) Vx.out rfl rfl rfl ?_ | refine loadP (w9.heap.size) Vy.out rfl rfl rfl ?_)
      clear HW HN
      refine (iAbsoluteDifference_any _ _ _ pl pb _ _ _ ql qb _ (S3.out.sr.mono (by omega)) (S4.out.sr.mono (by omega)) (by omega) (by omega)).mono ?_; rintro e w11 ⟨rfl, hw11⟩
      have zw11 : w10.heap.size ≤ w11.heap.size := hw11.size
      replace Ap := Lib.hid (Ap.out.below hw11 (by omega))
      replace Lp := Lib.hid (Lp.out.below hw11 (by omega))
      replace Aq := Lib.hid (Aq.out.below hw11 (by omega))
      replace Lq := Lib.hid (Lq.out.below hw11 (by omega))
      replace HB := Lib.hid (HB.out.trans (hw11.mono (by omega)))
      replace S3 := Lib.hid (S3.out.below hw11 (by omega))
      replace Vx := Lib.hid (Vx.out.below hw11 (by omega))
      replace S4 := Lib.hid (S4.out.below hw11 (by omega))
      replace Vy := Lib.hid (Vy.out.below hw11 (by omega))
      clear hw11
      go_wp2_with fail
      refine wp_region_held_drew (S := fun w' => Below w11.heap.size w11 w') (by kernel_rfl) (Below.refl _ _).drew (fun hw12 => ?_)
      have Lp0 := Lp
      have Lq0 := Lq
      have Vx0 := Vx
      have Vy0 := Vy
      generalize w11.drew = w12 at hw12 ⊢
      have zw12 : w11.heap.size ≤ w12.heap.size := hw12.size
      replace Ap := Lib.hid (Ap.out.below hw12 (by omega))
      replace Lp := Lib.hid (Lp.out.below hw12 (by omega))
      replace Aq := Lib.hid (Aq.out.below hw12 (by omega))
      replace Lq := Lib.hid (Lq.out.below hw12 (by omega))
      replace HB := Lib.hid (HB.out.trans (hw12.mono (by omega)))
      replace S3 := Lib.hid (S3.out.below hw12 (by omega))
      replace Vx := Lib.hid (Vx.out.below hw12 (by omega))
      replace S4 := Lib.hid (S4.out.below hw12 (by omega))
      replace Vy := Lib.hid (Vy.out.below hw12 (by omega))
      refine wpAnyH_take (i := 0) (v := .agg #[.int .i64 pw, .int .i64 ph, .slice (some ⟨g3, 0, none⟩) pl pl]) rfl (by kernel_rfl) (by kernel_rfl) (by kernel_rfl) (fun _ _ _ h => h) (yieldsP w7.heap.size (fun _ h => Vx0.out.below h (by omega)) (by rfl) rfl rfl) hw12 ?_
      refine wpAnyH_take (i := 1) (v := .agg #[.int .i64 pw, .int .i64 ph, .slice pa pl pc]) rfl (by kernel_rfl) (by kernel_rfl) (by kernel_rfl) (fun _ _ _ h => h) (yieldsL (w.heap.size + 0) (fun _ h => Lp0.out.below h (by omega)) (by rfl) rfl rfl) hw12 ?_
      refine wpAnyH_ready (rs := [2]) (by kernel_rfl) (by simp) ?_
      refine AllReadyH.cons rfl (fun K hK => ?_) AllReadyH.nil
      go_simp
      refine (toPicture_any _ _ _ pl pb _ (Ap.out.mono (by omega)) (by omega) rfl).mono ?_; rintro e w13 ⟨g5, rfl, k5, b5, hw13⟩
      have zw13 : w12.heap.size ≤ w13.heap.size := hw13.size
      replace Ap := Lib.hid (Ap.out.below hw13 (by omega))
      replace Lp := Lib.hid (Lp.out.below hw13 (by omega))
      replace Aq := Lib.hid (Aq.out.below hw13 (by omega))
      replace Lq := Lib.hid (Lq.out.below hw13 (by omega))
      replace HB := Lib.hid (HB.out.trans (hw13.mono (by omega)))
      replace S3 := Lib.hid (S3.out.below hw13 (by omega))
      replace Vx := Lib.hid (Vx.out.below hw13 (by omega))
      replace S4 := Lib.hid (S4.out.below hw13 (by omega))
      replace Vy := Lib.hid (Vy.out.below hw13 (by omega))
      refine hK.out _ _ (hw12.trans (hw13.mono (by omega))) (fun Hw13 => ?_)
      clear hK K hw13 hw12
      have S5 := Lib.hid (MadeInt.sn k5 b5); clear k5 b5
      refine wpAnyH_ready (rs := [3]) (by kernel_rfl) (by simp) ?_
      refine AllReadyH.cons rfl (fun K hK => ?_) AllReadyH.nil
      go_simp
      refine (eqPicture_yes _ _ _ _ pl pb pb _ (S3.out.sr.mono (by omega)) (S5.out.sr.mono (by omega)) (fun _ _ => rfl) (by omega)).mono ?_; rintro e w14 ⟨rfl, hw14⟩
      have zw14 : w13.heap.size ≤ w14.heap.size := hw14.size
      replace Ap := Lib.hid (Ap.out.below hw14 (by omega))
      replace Lp := Lib.hid (Lp.out.below hw14 (by omega))
      replace Aq := Lib.hid (Aq.out.below hw14 (by omega))
      replace Lq := Lib.hid (Lq.out.below hw14 (by omega))
      replace HB := Lib.hid (HB.out.trans (hw14.mono (by omega)))
      replace S3 := Lib.hid (S3.out.below hw14 (by omega))
      replace Vx := Lib.hid (Vx.out.below hw14 (by omega))
      replace S4 := Lib.hid (S4.out.below hw14 (by omega))
      replace Vy := Lib.hid (Vy.out.below hw14 (by omega))
      replace S5 := Lib.hid (S5.out.below hw14 (by omega))
      refine hK.out _ _ (Hw13.trans (hw14.mono (by omega))) (fun Hw14 => ?_)
      clear hK K hw14 Hw13
      refine wpAnyH_ready (rs := [4]) (by kernel_rfl) (by simp) ?_
      refine AllReadyH.cons rfl (fun K hK => ?_) AllReadyH.nil
      go_simp
      refine hK.out _ _ Hw14 (fun _ => ?_)
      clear hK K
      refine wpAnyH_done (by kernel_rfl) ?_ _
      clear Lp0
      clear Lq0
      clear Vx0
      clear Vy0
      clear Hw14
      clear S5
      go_wp2_with fail
      refine wp_region_held_drew (S := fun w' => Below w14.heap.size w14 w') (by kernel_rfl) (Below.refl _ _).drew (fun hw15 => ?_)
      have Lp0 := Lp
      have Lq0 := Lq
      have Vx0 := Vx
      have Vy0 := Vy
      generalize w14.drew = w15 at hw15 ⊢
      have zw15 : w14.heap.size ≤ w15.heap.size := hw15.size
      replace Ap := Lib.hid (Ap.out.below hw15 (by omega))
      replace Lp := Lib.hid (Lp.out.below hw15 (by omega))
      replace Aq := Lib.hid (Aq.out.below hw15 (by omega))
      replace Lq := Lib.hid (Lq.out.below hw15 (by omega))
      replace HB := Lib.hid (HB.out.trans (hw15.mono (by omega)))
      replace S3 := Lib.hid (S3.out.below hw15 (by omega))
      replace Vx := Lib.hid (Vx.out.below hw15 (by omega))
      replace S4 := Lib.hid (S4.out.below hw15 (by omega))
      replace Vy := Lib.hid (Vy.out.below hw15 (by omega))
      refine wpAnyH_take (i := 0) (v := .agg #[.int .i64 qw, .int .i64 qh, .slice (some ⟨g4, 0, none⟩) ql ql]) rfl (by kernel_rfl) (by kernel_rfl) (by kernel_rfl) (fun _ _ _ h => h) (yieldsP w9.heap.size (fun _ h => Vy0.out.below h (by omega)) (by rfl) rfl rfl) hw15 ?_
      refine wpAnyH_take (i := 1) (v := .agg #[.int .i64 qw, .int .i64 qh, .slice qa ql qc]) rfl (by kernel_rfl) (by kernel_rfl) (by kernel_rfl) (fun _ _ _ h => h) (yieldsL (w.heap.size + 1) (fun _ h => Lq0.out.below h (by omega)) (by rfl) rfl rfl) hw15 ?_
      refine wpAnyH_ready (rs := [2]) (by kernel_rfl) (by simp) ?_
      refine AllReadyH.cons rfl (fun K hK => ?_) AllReadyH.nil
      go_simp
      refine (toPicture_any _ _ _ ql qb _ (Aq.out.mono (by omega)) (by omega) rfl).mono ?_; rintro e w16 ⟨g6, rfl, k6, b6, hw16⟩
      have zw16 : w15.heap.size ≤ w16.heap.size := hw16.size
      replace Ap := Lib.hid (Ap.out.below hw16 (by omega))
      replace Lp := Lib.hid (Lp.out.below hw16 (by omega))
      replace Aq := Lib.hid (Aq.out.below hw16 (by omega))
      replace Lq := Lib.hid (Lq.out.below hw16 (by omega))
      replace HB := Lib.hid (HB.out.trans (hw16.mono (by omega)))
      replace S3 := Lib.hid (S3.out.below hw16 (by omega))
      replace Vx := Lib.hid (Vx.out.below hw16 (by omega))
      replace S4 := Lib.hid (S4.out.below hw16 (by omega))
      replace Vy := Lib.hid (Vy.out.below hw16 (by omega))
      refine hK.out _ _ (hw15.trans (hw16.mono (by omega))) (fun Hw16 => ?_)
      clear hK K hw16 hw15
      have S6 := Lib.hid (MadeInt.sn k6 b6); clear k6 b6
      refine wpAnyH_ready (rs := [3]) (by kernel_rfl) (by simp) ?_
      refine AllReadyH.cons rfl (fun K hK => ?_) AllReadyH.nil
      go_simp
      refine (eqPicture_yes _ _ _ _ ql qb qb _ (S4.out.sr.mono (by omega)) (S6.out.sr.mono (by omega)) (fun _ _ => rfl) (by omega)).mono ?_; rintro e w17 ⟨rfl, hw17⟩
      have zw17 : w16.heap.size ≤ w17.heap.size := hw17.size
      replace Ap := Lib.hid (Ap.out.below hw17 (by omega))
      replace Lp := Lib.hid (Lp.out.below hw17 (by omega))
      replace Aq := Lib.hid (Aq.out.below hw17 (by omega))
      replace Lq := Lib.hid (Lq.out.below hw17 (by omega))
      replace HB := Lib.hid (HB.out.trans (hw17.mono (by omega)))
      replace S3 := Lib.hid (S3.out.below hw17 (by omega))
      replace Vx := Lib.hid (Vx.out.below hw17 (by omega))
      replace S4 := Lib.hid (S4.out.below hw17 (by omega))
      replace Vy := Lib.hid (Vy.out.below hw17 (by omega))
      replace S6 := Lib.hid (S6.out.below hw17 (by omega))
      refine hK.out _ _ (Hw16.trans (hw17.mono (by omega))) (fun Hw17 => ?_)
      clear hK K hw17 Hw16
      refine wpAnyH_ready (rs := [4]) (by kernel_rfl) (by simp) ?_
      refine AllReadyH.cons rfl (fun K hK => ?_) AllReadyH.nil
      go_simp
      refine hK.out _ _ Hw17 (fun _ => ?_)
      clear hK K
      refine wpAnyH_done (by kernel_rfl) ?_ _
      clear Lp0
      clear Lq0
      clear Vx0
      clear Vy0
      clear Hw17
      clear S6
      go_wp2_with fail
      go_ret
      exact ⟨rfl, HB.out⟩

set_option maxRecDepth 100000 in
set_option maxHeartbeats 2000000 in
theorem FnExactSquaredDifference_walk (pw ph : Int) (pa : Option Addr) (pl pc : Nat) (pz : List Int) (qw qh : Int) (qa : Option Addr) (ql qc : Nat) (qz : List Int) (w : World) (hp : IsPic w pw ph pa pl pc pz) (hq : IsPic w qw qh qa ql qc qz) :
    Calls Try.prog 6 #[.agg #[.int .i64 pw, .int .i64 ph, .slice pa pl pc], .agg #[.int .i64 qw, .int .i64 qh, .slice qa ql qc]] w fun e w' => e = .returned (.bool true) ∧ Below w.heap.size w w' := by
  obtain ⟨hsp, hmp, _⟩ := hp.2.2.sr
  generalize (fun i => pz.getD i 0) = pb at *
  clear hp
  obtain ⟨hsq, hmq, _⟩ := hq.2.2.sr
  generalize (fun i => qz.getD i 0) = qb at *
  clear hq
  obtain ⟨w0, hw0⟩ : ∃ w0, w0 = (w.alloc (.cells #[.int .i64 pw, .int .i64 ph, .slice pa pl pc] 29)).alloc (.cells #[.int .i64 qw, .int .i64 qh, .slice qa ql qc] 29) := ⟨_, rfl⟩
  have hLp : PicL w0 (w.heap.size + 0) pw ph (.slice pa pl pc) := by rw [hw0]; exact (PicL.new' rfl).alloc _
  have hLq : PicL w0 (w.heap.size + 1) qw qh (.slice qa ql qc) := by rw [hw0]; exact PicL.new' (by simp)
  have hbel : Below w.heap.size w w0 := by rw [hw0]; exact ((Below.refl _ _).alloc (Nat.le_refl _) _).alloc (by simp) _
  have hs0 : w.heap.size + 1 < w0.heap.size := by rw [hw0]; simp
  have Ap := Lib.hid (hsp.below hbel (Nat.le_refl _)); clear hsp
  have Lp := Lib.hid hLp; clear hLp
  have Aq := Lib.hid (hsq.below hbel (Nat.le_refl _)); clear hsq
  have Lq := Lib.hid hLq; clear hLq
  have HB := Lib.hid hbel; clear hbel
  have HW := Lib.hid hw0; clear hw0
  go_enter Try.func6, Try.ntmps6
  go_wp2_with fail
  rw [← HW.out]
  clear HW
  go_wp2_with (refine loadL (w.heap.size + 0) Lp.out rfl rfl rfl ?_)
  refine (szPicture_any _ _ _ _ _ _ _ hmp (by omega) (by omega)).mono ?_; rintro e w1 ⟨rfl, hw1⟩
  have zw1 : w0.heap.size ≤ w1.heap.size := hw1.size
  replace Ap := Lib.hid (Ap.out.below hw1 (by omega))
  replace Lp := Lib.hid (Lp.out.below hw1 (by omega))
  replace Aq := Lib.hid (Aq.out.below hw1 (by omega))
  replace Lq := Lib.hid (Lq.out.below hw1 (by omega))
  replace HB := Lib.hid (HB.out.trans (hw1.mono (by omega)))
  clear hw1
  by_cases hlp : 1048576 < pl
  · have hneg : leftI 1048576 pl < 0 := by unfold leftI; rw [if_pos (by omega)]; omega
    go_wp2_with fail
    go_ret
    exact ⟨rfl, HB.out⟩
  · obtain ⟨q0, hq0⟩ : ∃ q : Int, leftI 1048576 pl = q := ⟨_, rfl⟩
    rw [hq0]
    have hq0a : 0 ≤ q0 ∧ q0 = 1048576 - pl := by rw [← hq0]; unfold leftI; rw [if_neg (by omega)]; omega
    clear hq0
    have hq00 : 0 ≤ q0 := hq0a.1
    have hq01 : q0 ≤ 1048576 := by omega
    have hlp : pl ≤ 1048576 := by omega
    have HQ0 := Lib.hid hq0a.2
    clear hq0a
    go_wp2_with (refine loadL (w.heap.size + 1) Lq.out rfl rfl rfl ?_)
    refine (szPicture_any _ _ _ _ _ _ _ hmq (by omega) (by omega)).mono ?_; rintro e w2 ⟨rfl, hw2⟩
    have zw2 : w1.heap.size ≤ w2.heap.size := hw2.size
    replace Ap := Lib.hid (Ap.out.below hw2 (by omega))
    replace Lp := Lib.hid (Lp.out.below hw2 (by omega))
    replace Aq := Lib.hid (Aq.out.below hw2 (by omega))
    replace Lq := Lib.hid (Lq.out.below hw2 (by omega))
    replace HB := Lib.hid (HB.out.trans (hw2.mono (by omega)))
    clear hw2
    by_cases hlq : q0 < ql
    · have hneg : leftI q0 ql < 0 := by unfold leftI; rw [if_pos (by omega)]; omega
      go_wp2_with fail
      go_ret
      exact ⟨rfl, HB.out⟩
    · obtain ⟨q1, hq1⟩ : ∃ q : Int, leftI q0 ql = q := ⟨_, rfl⟩
      rw [hq1]
      have hq1a : 0 ≤ q1 ∧ q1 = q0 - ql := by rw [← hq1]; unfold leftI; rw [if_neg (by omega)]; omega
      clear hq1
      have hq10 : 0 ≤ q1 := hq1a.1
      have hq11 : q1 ≤ 1048576 := by omega
      have hlq : ql ≤ 1048576 := by omega
      clear hq1a
      go_wp2_with fail
      refine wp_region_held_drew (S := fun w' => Below w2.heap.size w2 w') (by kernel_rfl) (Below.refl _ _).drew (fun hw3 => ?_)
      have Lp0 := Lp
      have Lq0 := Lq
      generalize w2.drew = w3 at hw3 ⊢
      have zw3 : w2.heap.size ≤ w3.heap.size := hw3.size
      replace Ap := Lib.hid (Ap.out.below hw3 (by omega))
      replace Lp := Lib.hid (Lp.out.below hw3 (by omega))
      replace Aq := Lib.hid (Aq.out.below hw3 (by omega))
      replace Lq := Lib.hid (Lq.out.below hw3 (by omega))
      replace HB := Lib.hid (HB.out.trans (hw3.mono (by omega)))
      refine wpAnyH_take (i := 0) (v := .agg #[.int .i64 pw, .int .i64 ph, .slice pa pl pc]) rfl (by kernel_rfl) (by kernel_rfl) (by kernel_rfl) (fun _ _ _ h => h) (yieldsL (w.heap.size + 0) (fun _ h => Lp0.out.below h (by omega)) (by rfl) rfl rfl) hw3 ?_
      refine wpAnyH_take (i := 2) (v := .agg #[.int .i64 qw, .int .i64 qh, .slice qa ql qc]) rfl (by kernel_rfl) (by kernel_rfl) (by kernel_rfl) (fun _ _ _ h => h) (yieldsL (w.heap.size + 1) (fun _ h => Lq0.out.below h (by omega)) (by rfl) rfl rfl) hw3 ?_
      refine wpAnyH_ready (rs := [1]) (by kernel_rfl) (by simp) ?_
      refine AllReadyH.cons rfl (fun K hK => ?_) AllReadyH.nil
      go_simp
      refine (toPicture_any _ _ _ pl pb _ (Ap.out.mono (by omega)) (by omega) rfl).mono ?_; rintro e w4 ⟨g1, rfl, k1, b1, hw4⟩
      have zw4 : w3.heap.size ≤ w4.heap.size := hw4.size
      replace Ap := Lib.hid (Ap.out.below hw4 (by omega))
      replace Lp := Lib.hid (Lp.out.below hw4 (by omega))
      replace Aq := Lib.hid (Aq.out.below hw4 (by omega))
      replace Lq := Lib.hid (Lq.out.below hw4 (by omega))
      replace HB := Lib.hid (HB.out.trans (hw4.mono (by omega)))
      refine hK.out _ _ (hw3.trans (hw4.mono (by omega))) (fun Hw4 => ?_)
      clear hK K hw4 hw3
      have S1 := Lib.hid (MadeInt.sn k1 b1); clear k1 b1
      refine wpAnyH_ready (rs := [3]) (by kernel_rfl) (by simp) ?_
      refine AllReadyH.cons rfl (fun K hK => ?_) AllReadyH.nil
      go_simp
      refine (toPicture_any _ _ _ ql qb _ (Aq.out.mono (by omega)) (by omega) rfl).mono ?_; rintro e w5 ⟨g2, rfl, k2, b2, hw5⟩
      have zw5 : w4.heap.size ≤ w5.heap.size := hw5.size
      replace Ap := Lib.hid (Ap.out.below hw5 (by omega))
      replace Lp := Lib.hid (Lp.out.below hw5 (by omega))
      replace Aq := Lib.hid (Aq.out.below hw5 (by omega))
      replace Lq := Lib.hid (Lq.out.below hw5 (by omega))
      replace HB := Lib.hid (HB.out.trans (hw5.mono (by omega)))
      replace S1 := Lib.hid (S1.out.below hw5 (by omega))
      refine hK.out _ _ (Hw4.trans (hw5.mono (by omega))) (fun Hw5 => ?_)
      clear hK K hw5 Hw4
      have S2 := Lib.hid (MadeInt.sn k2 b2); clear k2 b2
      refine wpAnyH_ready (rs := [4]) (by kernel_rfl) (by simp) ?_
      refine AllReadyH.cons rfl (fun K hK => ?_) AllReadyH.nil
      go_simp
      refine (sSquaredDifference_any _ _ _ pl pb _ _ _ ql qb _ (S1.out.sr.mono (by omega)) (S2.out.sr.mono (by omega)) (by omega) (by omega)).mono ?_; rintro e w6 ⟨rfl, hw6⟩
      have zw6 : w5.heap.size ≤ w6.heap.size := hw6.size
      replace Ap := Lib.hid (Ap.out.below hw6 (by omega))
      replace Lp := Lib.hid (Lp.out.below hw6 (by omega))
      replace Aq := Lib.hid (Aq.out.below hw6 (by omega))
      replace Lq := Lib.hid (Lq.out.below hw6 (by omega))
      replace HB := Lib.hid (HB.out.trans (hw6.mono (by omega)))
      replace S1 := Lib.hid (S1.out.below hw6 (by omega))
      replace S2 := Lib.hid (S2.out.below hw6 (by omega))
      refine hK.out _ _ (Hw5.trans (hw6.mono (by omega))) (fun Hw6 => ?_)
      clear hK K hw6 Hw5
      refine wpAnyH_ready (rs := [5]) (by kernel_rfl) (by simp) ?_
      refine AllReadyH.cons rfl (fun K hK => ?_) AllReadyH.nil
      go_simp
      refine hK.out _ _ Hw6 (fun _ => ?_)
      clear hK K
      refine wpAnyH_done (by kernel_rfl) ?_ _
      clear Lp0
      clear Lq0
      clear Hw6
      clear S1 S2
      go_wp2_with (refine loadL (w.heap.size + 0) Lp.out rfl rfl rfl ?_)
      refine (toPicture_any _ _ _ pl pb _ (Ap.out.mono (by omega)) (by omega) rfl).mono ?_; rintro e w7 ⟨g3, rfl, k3, b3, hw7⟩
      have zw7 : w6.heap.size ≤ w7.heap.size := hw7.size
      replace Ap := Lib.hid (Ap.out.below hw7 (by omega))
      replace Lp := Lib.hid (Lp.out.below hw7 (by omega))
      replace Aq := Lib.hid (Aq.out.below hw7 (by omega))
      replace Lq := Lib.hid (Lq.out.below hw7 (by omega))
      replace HB := Lib.hid (HB.out.trans (hw7.mono (by omega)))
      have S3 := Lib.hid (MadeInt.sn k3 b3); clear k3 b3
      clear hw7
      have HN := Lib.hid (show PicB (w7.alloc (.cells #[.int .i64 0, .int .i64 0, .slice none 0 0] 24)) w7.heap.size 0 0 (.slice none 0 0) from PicB.new' rfl)
      obtain ⟨w8, hw⟩ : ∃ w8, w8 = (w7.alloc (.cells #[.int .i64 0, .int .i64 0, .slice none 0 0] 24)).setRow w7.heap.size #[.int .i64 pw, .int .i64 ph, .slice (some ⟨g3, 0, none⟩) pl pl] := ⟨_, rfl⟩
      have hV : PicB w8 w7.heap.size pw ph (.slice (some ⟨g3, 0, none⟩) pl pl) := by rw [hw]; exact HN.out.setRow _ _ _
      have hw8 : Below w7.heap.size w7 w8 := by rw [hw]; exact below_setRow ((Below.refl _ _).alloc (Nat.le_refl _) _) (Nat.le_refl _) _
      have zw8 : w7.heap.size < w8.heap.size := by rw [hw]; simp
      have HW := Lib.hid hw; clear hw
      replace Ap := Lib.hid (Ap.out.below hw8 (by omega))
      replace Lp := Lib.hid (Lp.out.below hw8 (by omega))
      replace Aq := Lib.hid (Aq.out.below hw8 (by omega))
      replace Lq := Lib.hid (Lq.out.below hw8 (by omega))
      replace HB := Lib.hid (HB.out.trans (hw8.mono (by omega)))
      replace S3 := Lib.hid (S3.out.below hw8 (by omega))
      have Vx := Lib.hid hV; clear hV hw8
      go_wp2_with (first | (refine storeP w7.heap.size HN.out rfl rfl rfl rfl rfl ?_; rw [← HW.out]) | refine loadL (w.heap.size + 1) Lq.out rfl rfl rfl ?_)
      clear HW HN
      refine (toPicture_any _ _ _ ql qb _ (Aq.out.mono (by omega)) (by omega) rfl).mono ?_; rintro e w9 ⟨g4, rfl, k4, b4, hw9⟩
      have zw9 : w8.heap.size ≤ w9.heap.size := hw9.size
      replace Ap := Lib.hid (Ap.out.below hw9 (by omega))
      replace Lp := Lib.hid (Lp.out.below hw9 (by omega))
      replace Aq := Lib.hid (Aq.out.below hw9 (by omega))
      replace Lq := Lib.hid (Lq.out.below hw9 (by omega))
      replace HB := Lib.hid (HB.out.trans (hw9.mono (by omega)))
      replace S3 := Lib.hid (S3.out.below hw9 (by omega))
      replace Vx := Lib.hid (Vx.out.below hw9 (by omega))
      have S4 := Lib.hid (MadeInt.sn k4 b4); clear k4 b4
      clear hw9
      have HN := Lib.hid (show PicB (w9.alloc (.cells #[.int .i64 0, .int .i64 0, .slice none 0 0] 24)) w9.heap.size 0 0 (.slice none 0 0) from PicB.new' rfl)
      obtain ⟨w10, hw⟩ : ∃ w10, w10 = (w9.alloc (.cells #[.int .i64 0, .int .i64 0, .slice none 0 0] 24)).setRow w9.heap.size #[.int .i64 qw, .int .i64 qh, .slice (some ⟨g4, 0, none⟩) ql ql] := ⟨_, rfl⟩
      have hV : PicB w10 w9.heap.size qw qh (.slice (some ⟨g4, 0, none⟩) ql ql) := by rw [hw]; exact HN.out.setRow _ _ _
      have hw10 : Below w9.heap.size w9 w10 := by rw [hw]; exact below_setRow ((Below.refl _ _).alloc (Nat.le_refl _) _) (Nat.le_refl _) _
      have zw10 : w9.heap.size < w10.heap.size := by rw [hw]; simp
      have HW := Lib.hid hw; clear hw
      replace Ap := Lib.hid (Ap.out.below hw10 (by omega))
      replace Lp := Lib.hid (Lp.out.below hw10 (by omega))
      replace Aq := Lib.hid (Aq.out.below hw10 (by omega))
      replace Lq := Lib.hid (Lq.out.below hw10 (by omega))
      replace HB := Lib.hid (HB.out.trans (hw10.mono (by omega)))
      replace S3 := Lib.hid (S3.out.below hw10 (by omega))
      replace Vx := Lib.hid (Vx.out.below hw10 (by omega))
      replace S4 := Lib.hid (S4.out.below hw10 (by omega))
      have Vy := Lib.hid hV; clear hV hw10
      go_wp2_with (first | (refine storeP w9.heap.size HN.out rfl rfl rfl rfl rfl ?_; rw [← HW.out]) | refine loadP (w7.heap.size) Vx.out rfl rfl rfl ?_ | refine loadP (w9.heap.size) Vy.out rfl rfl rfl ?_)
      clear HW HN
      refine (iSquaredDifference_any _ _ _ pl pb _ _ _ ql qb _ (S3.out.sr.mono (by omega)) (S4.out.sr.mono (by omega)) (by omega) (by omega)).mono ?_; rintro e w11 ⟨rfl, hw11⟩
      have zw11 : w10.heap.size ≤ w11.heap.size := hw11.size
      replace Ap := Lib.hid (Ap.out.below hw11 (by omega))
      replace Lp := Lib.hid (Lp.out.below hw11 (by omega))
      replace Aq := Lib.hid (Aq.out.below hw11 (by omega))
      replace Lq := Lib.hid (Lq.out.below hw11 (by omega))
      replace HB := Lib.hid (HB.out.trans (hw11.mono (by omega)))
      replace S3 := Lib.hid (S3.out.below hw11 (by omega))
      replace Vx := Lib.hid (Vx.out.below hw11 (by omega))
      replace S4 := Lib.hid (S4.out.below hw11 (by omega))
      replace Vy := Lib.hid (Vy.out.below hw11 (by omega))
      clear hw11
      go_wp2_with fail
      refine wp_region_held_drew (S := fun w' => Below w11.heap.size w11 w') (by kernel_rfl) (Below.refl _ _).drew (fun hw12 => ?_)
      have Lp0 := Lp
      have Lq0 := Lq
      have Vx0 := Vx
      have Vy0 := Vy
      generalize w11.drew = w12 at hw12 ⊢
      have zw12 : w11.heap.size ≤ w12.heap.size := hw12.size
      replace Ap := Lib.hid (Ap.out.below hw12 (by omega))
      replace Lp := Lib.hid (Lp.out.below hw12 (by omega))
      replace Aq := Lib.hid (Aq.out.below hw12 (by omega))
      replace Lq := Lib.hid (Lq.out.below hw12 (by omega))
      replace HB := Lib.hid (HB.out.trans (hw12.mono (by omega)))
      replace S3 := Lib.hid (S3.out.below hw12 (by omega))
      replace Vx := Lib.hid (Vx.out.below hw12 (by omega))
      replace S4 := Lib.hid (S4.out.below hw12 (by omega))
      replace Vy := Lib.hid (Vy.out.below hw12 (by omega))
      refine wpAnyH_take (i := 0) (v := .agg #[.int .i64 pw, .int .i64 ph, .slice (some ⟨g3, 0, none⟩) pl pl]) rfl (by kernel_rfl) (by kernel_rfl) (by kernel_rfl) (fun _ _ _ h => h) (yieldsP w7.heap.size (fun _ h => Vx0.out.below h (by omega)) (by rfl) rfl rfl) hw12 ?_
      refine wpAnyH_take (i := 1) (v := .agg #[.int .i64 pw, .int .i64 ph, .slice pa pl pc]) rfl (by kernel_rfl) (by kernel_rfl) (by kernel_rfl) (fun _ _ _ h => h) (yieldsL (w.heap.size + 0) (fun _ h => Lp0.out.below h (by omega)) (by rfl) rfl rfl) hw12 ?_
      refine wpAnyH_ready (rs := [2]) (by kernel_rfl) (by simp) ?_
      refine AllReadyH.cons rfl (fun K hK => ?_) AllReadyH.nil
      go_simp
      refine (toPicture_any _ _ _ pl pb _ (Ap.out.mono (by omega)) (by omega) rfl).mono ?_; rintro e w13 ⟨g5, rfl, k5, b5, hw13⟩
      have zw13 : w12.heap.size ≤ w13.heap.size := hw13.size
      replace Ap := Lib.hid (Ap.out.below hw13 (by omega))
      replace Lp := Lib.hid (Lp.out.below hw13 (by omega))
      replace Aq := Lib.hid (Aq.out.below hw13 (by omega))
      replace Lq := Lib.hid (Lq.out.below hw13 (by omega))
      replace HB := Lib.hid (HB.out.trans (hw13.mono (by omega)))
      replace S3 := Lib.hid (S3.out.below hw13 (by omega))
      replace Vx := Lib.hid (Vx.out.below hw13 (by omega))
      replace S4 := Lib.hid (S4.out.below hw13 (by omega))
      replace Vy := Lib.hid (Vy.out.below hw13 (by omega))
      refine hK.out _ _ (hw12.trans (hw13.mono (by omega))) (fun Hw13 => ?_)
      clear hK K hw13 hw12
      have S5 := Lib.hid (MadeInt.sn k5 b5); clear k5 b5
      refine wpAnyH_ready (rs := [3]) (by kernel_rfl) (by simp) ?_
      refine AllReadyH.cons rfl (fun K hK => ?_) AllReadyH.nil
      go_simp
      refine (eqPicture_yes _ _ _ _ pl pb pb _ (S3.out.sr.mono (by omega)) (S5.out.sr.mono (by omega)) (fun _ _ => rfl) (by omega)).mono ?_; rintro e w14 ⟨rfl, hw14⟩
      have zw14 : w13.heap.size ≤ w14.heap.size := hw14.size
      replace Ap := Lib.hid (Ap.out.below hw14 (by omega))
      replace Lp := Lib.hid (Lp.out.below hw14 (by omega))
      replace Aq := Lib.hid (Aq.out.below hw14 (by omega))
      replace Lq := Lib.hid (Lq.out.below hw14 (by omega))
      replace HB := Lib.hid (HB.out.trans (hw14.mono (by omega)))
      replace S3 := Lib.hid (S3.out.below hw14 (by omega))
      replace Vx := Lib.hid (Vx.out.below hw14 (by omega))
      replace S4 := Lib.hid (S4.out.below hw14 (by omega))
      replace Vy := Lib.hid (Vy.out.below hw14 (by omega))
      replace S5 := Lib.hid (S5.out.below hw14 (by omega))
      refine hK.out _ _ (Hw13.trans (hw14.mono (by omega))) (fun Hw14 => ?_)
      clear hK K hw14 Hw13
      refine wpAnyH_ready (rs := [4]) (by kernel_rfl) (by simp) ?_
      refine AllReadyH.cons rfl (fun K hK => ?_) AllReadyH.nil
      go_simp
      refine hK.out _ _ Hw14 (fun _ => ?_)
      clear hK K
      refine wpAnyH_done (by kernel_rfl) ?_ _
      clear Lp0
      clear Lq0
      clear Vx0
      clear Vy0
      clear Hw14
      clear S5
      go_wp2_with fail
      refine wp_region_held_drew (S := fun w' => Below w14.heap.size w14 w') (by kernel_rfl) (Below.refl _ _).drew (fun hw15 => ?_)
      have Lp0 := Lp
      have Lq0 := Lq
      have Vx0 := Vx
      have Vy0 := Vy
      generalize w14.drew = w15 at hw15 ⊢
      have zw15 : w14.heap.size ≤ w15.heap.size := hw15.size
      replace Ap := Lib.hid (Ap.out.below hw15 (by omega))
      replace Lp := Lib.hid (Lp.out.below hw15 (by omega))
      replace Aq := Lib.hid (Aq.out.below hw15 (by omega))
      replace Lq := Lib.hid (Lq.out.below hw15 (by omega))
      replace HB := Lib.hid (HB.out.trans (hw15.mono (by omega)))
      replace S3 := Lib.hid (S3.out.below hw15 (by omega))
      replace Vx := Lib.hid (Vx.out.below hw15 (by omega))
      replace S4 := Lib.hid (S4.out.below hw15 (by omega))
      replace Vy := Lib.hid (Vy.out.below hw15 (by omega))
      refine wpAnyH_take (i := 0) (v := .agg #[.int .i64 qw, .int .i64 qh, .slice (some ⟨g4, 0, none⟩) ql ql]) rfl (by kernel_rfl) (by kernel_rfl) (by kernel_rfl) (fun _ _ _ h => h) (yieldsP w9.heap.size (fun _ h => Vy0.out.below h (by omega)) (by rfl) rfl rfl) hw15 ?_
      refine wpAnyH_take (i := 1) (v := .agg #[.int .i64 qw, .int .i64 qh, .slice qa ql qc]) rfl (by kernel_rfl) (by kernel_rfl) (by kernel_rfl) (fun _ _ _ h => h) (yieldsL (w.heap.size + 1) (fun _ h => Lq0.out.below h (by omega)) (by rfl) rfl rfl) hw15 ?_
      refine wpAnyH_ready (rs := [2]) (by kernel_rfl) (by simp) ?_
      refine AllReadyH.cons rfl (fun K hK => ?_) AllReadyH.nil
      go_simp
      refine (toPicture_any _ _ _ ql qb _ (Aq.out.mono (by omega)) (by omega) rfl).mono ?_; rintro e w16 ⟨g6, rfl, k6, b6, hw16⟩
      have zw16 : w15.heap.size ≤ w16.heap.size := hw16.size
      replace Ap := Lib.hid (Ap.out.below hw16 (by omega))
      replace Lp := Lib.hid (Lp.out.below hw16 (by omega))
      replace Aq := Lib.hid (Aq.out.below hw16 (by omega))
      replace Lq := Lib.hid (Lq.out.below hw16 (by omega))
      replace HB := Lib.hid (HB.out.trans (hw16.mono (by omega)))
      replace S3 := Lib.hid (S3.out.below hw16 (by omega))
      replace Vx := Lib.hid (Vx.out.below hw16 (by omega))
      replace S4 := Lib.hid (S4.out.below hw16 (by omega))
      replace Vy := Lib.hid (Vy.out.below hw16 (by omega))
      refine hK.out _ _ (hw15.trans (hw16.mono (by omega))) (fun Hw16 => ?_)
      clear hK K hw16 hw15
      have S6 := Lib.hid (MadeInt.sn k6 b6); clear k6 b6
      refine wpAnyH_ready (rs := [3]) (by kernel_rfl) (by simp) ?_
      refine AllReadyH.cons rfl (fun K hK => ?_) AllReadyH.nil
      go_simp
      refine (eqPicture_yes _ _ _ _ ql qb qb _ (S4.out.sr.mono (by omega)) (S6.out.sr.mono (by omega)) (fun _ _ => rfl) (by omega)).mono ?_; rintro e w17 ⟨rfl, hw17⟩
      have zw17 : w16.heap.size ≤ w17.heap.size := hw17.size
      replace Ap := Lib.hid (Ap.out.below hw17 (by omega))
      replace Lp := Lib.hid (Lp.out.below hw17 (by omega))
      replace Aq := Lib.hid (Aq.out.below hw17 (by omega))
      replace Lq := Lib.hid (Lq.out.below hw17 (by omega))
      replace HB := Lib.hid (HB.out.trans (hw17.mono (by omega)))
      replace S3 := Lib.hid (S3.out.below hw17 (by omega))
      replace Vx := Lib.hid (Vx.out.below hw17 (by omega))
      replace S4 := Lib.hid (S4.out.below hw17 (by omega))
      replace Vy := Lib.hid (Vy.out.below hw17 (by omega))
      replace S6 := Lib.hid (S6.out.below hw17 (by omega))
      refine hK.out _ _ (Hw16.trans (hw17.mono (by omega))) (fun Hw17 => ?_)
      clear hK K hw17 Hw16
      refine wpAnyH_ready (rs := [4]) (by kernel_rfl) (by simp) ?_
      refine AllReadyH.cons rfl (fun K hK => ?_) AllReadyH.nil
      go_simp
      refine hK.out _ _ Hw17 (fun _ => ?_)
      clear hK K
      refine wpAnyH_done (by kernel_rfl) ?_ _
      clear Lp0
      clear Lq0
      clear Vx0
      clear Vy0
      clear Hw17
      clear S6
      go_wp2_with fail
      go_ret
      exact ⟨rfl, HB.out⟩

end Go.Proofs.Ytjogdkeoadkbnaa
