/- The walk of the exact law on Transpose. -/
import Derived.Test.YtjogdkeoadkbnaaPic4
import Derived.Test.YtjogdkeoadkbnaaPicLaws
namespace Go.Proofs.Ytjogdkeoadkbnaa
open Go.RowKit

theorem PicL.modB {lo hi : Nat} {w w' : World} {g : Nat} {pw ph : Int} {v : Value} (h : PicL w g pw ph v) (hm : ModB lo hi w w') (hd : g < lo ∨ hi ≤ g) : PicL w' g pw ph v := (hm.block g h.lt hd).trans h
theorem trN_le (pw ph : Int) (n : Nat) (b : Nat → Int) : trN pw ph n b ≤ 1024 := by
  unfold trN
  split
  · rename_i h
    obtain ⟨s1, s2, hnn, _⟩ := pvB_out h
    have := side_mul _ _ s1 s2
    omega
  · omega
/-- Both give the same. -/
theorem transpose_both (pw ph : Int) (n : Nat) (b : Nat → Int) (hn : n ≤ 1000000000000) : ∃ nw nh nn nf, nn ≤ 1024 ∧ (∀ w v, Sr .i64 w.heap.size w v n b → Calls Try.prog 27 #[.agg #[.int .i64 pw, .int .i64 ph, v]] w (GaveP nw nh nn nf w)) ∧
    (∀ w v, Sr .i64 w.heap.size w v n b → Calls Try.prog 28 #[.agg #[.int .i64 pw, .int .i64 ph, v]] w (GaveP nw nh nn nf w)) :=
  ⟨_, _, _, _, trN_le pw ph n b, fun w v h => sTranspose_any pw ph v n b w h hn, fun w v h => iTranspose_any pw ph v n b w h hn⟩
set_option maxRecDepth 100000 in
set_option maxHeartbeats 2000000 in
theorem FnExactTranspose_walk (pw ph : Int) (pa : Option Addr) (pl pc : Nat) (pz : List Int) (w : World) (hp : IsPic w pw ph pa pl pc pz) :
    Calls Try.prog 8 #[.agg #[.int .i64 pw, .int .i64 ph, .slice pa pl pc]] w fun e w' => e = .returned (.bool true) ∧ Below w.heap.size w w' := by
  obtain ⟨hsp, hmp, _⟩ := hp.2.2.sr
  generalize (fun i => pz.getD i 0) = pb at *
  clear hp
  obtain ⟨w0, hw0⟩ : ∃ w0, w0 = w.alloc (.cells #[.int .i64 pw, .int .i64 ph, .slice pa pl pc] 29) := ⟨_, rfl⟩
  have hLp : PicL w0 (w.heap.size + 0) pw ph (.slice pa pl pc) := by rw [hw0]; exact PicL.new' rfl
  have hbel : Below w.heap.size w w0 := by rw [hw0]; exact (Below.refl _ _).alloc (Nat.le_refl _) _
  have hs0 : w.heap.size + 0 < w0.heap.size := by rw [hw0]; simp
  have Ap := Lib.hid (hsp.below hbel (Nat.le_refl _)); clear hsp
  have Lp := Lib.hid hLp; clear hLp
  have HB := Lib.hid hbel; clear hbel
  have HW := Lib.hid hw0; clear hw0
  go_enter Try.func8, Try.ntmps8
  go_wp2_with fail
  rw [← HW.out]
  clear HW
  go_wp2_with (refine loadL (w.heap.size + 0) Lp.out rfl rfl rfl ?_)
  refine (szPicture_any _ _ _ _ _ _ _ hmp (by omega) (by omega)).mono ?_; rintro e w1 ⟨rfl, hw1⟩
  have zw1 : w0.heap.size ≤ w1.heap.size := hw1.size
  replace Ap := Lib.hid (Ap.out.below hw1 (by omega))
  replace Lp := Lib.hid (Lp.out.below hw1 (by omega))
  replace HB := Lib.hid (HB.out.trans (hw1.mono (by omega)))
  clear hw1
  by_cases hlp : 1048576 < pl
  · have hneg : leftI 1048576 pl < 0 := by unfold leftI; rw [if_pos (by omega)]; omega
    go_wp2_with fail
    go_ret
    exact ⟨rfl, HB.out⟩
  · obtain ⟨q0, hq0⟩ : ∃ q : Int, leftI 1048576 pl = q := ⟨_, rfl⟩
    rw [hq0]
    have hq0a : 0 ≤ q0 ∧ q0 = 1048576 - pl := by rw [← hq0]; unfold leftI; rw [if_neg (by omega)]; omega
    clear hq0
    have hq00 : 0 ≤ q0 := hq0a.1
    have hq01 : q0 ≤ 1048576 := by omega
    have hlp : pl ≤ 1048576 := by omega
    clear hq0a
    obtain ⟨nw, nh, nn, nf, hnn, hs, hi⟩ := transpose_both pw ph pl pb (by omega)
    have HS := Lib.hid hs; have HI := Lib.hid hi; clear hs hi
    go_wp2_with (refine loadL (w.heap.size + 0) Lp.out rfl rfl rfl ?_)
    refine (toPicture_any _ _ _ pl pb _ (Ap.out.mono (by omega)) (by omega) rfl).mono ?_; rintro e w2 ⟨g1, rfl, k1, b1, hw2⟩
    have zw2 : w1.heap.size ≤ w2.heap.size := hw2.size
    replace Ap := Lib.hid (Ap.out.below hw2 (by omega))
    replace Lp := Lib.hid (Lp.out.below hw2 (by omega))
    replace HB := Lib.hid (HB.out.trans (hw2.mono (by omega)))
    have S1 := Lib.hid (MadeInt.sn k1 b1); clear k1 b1
    clear hw2
    go_wp2_with fail
    refine (HS.out _ _ (S1.out.sr.mono (by omega))).mono ?_; rintro e w3 ⟨a0, c0, rfl, r0, hw3⟩
    have zw3 : w2.heap.size ≤ w3.heap.size := hw3.size
    replace Ap := Lib.hid (Ap.out.below hw3 (by omega))
    replace Lp := Lib.hid (Lp.out.below hw3 (by omega))
    replace HB := Lib.hid (HB.out.trans (hw3.mono (by omega)))
    replace S1 := Lib.hid (S1.out.below hw3 (by omega))
    clear hw3
    have R0 := Lib.hid r0; clear r0
    clear S1
    have HN := Lib.hid (show PicB (w3.alloc (.cells #[.int .i64 0, .int .i64 0, .slice none 0 0] 24)) w3.heap.size 0 0 (.slice none 0 0) from PicB.new' rfl)
    obtain ⟨w4, hw⟩ : ∃ w4, w4 = (w3.alloc (.cells #[.int .i64 0, .int .i64 0, .slice none 0 0] 24)).setRow w3.heap.size #[.int .i64 nw, .int .i64 nh, .slice a0 nn c0] := ⟨_, rfl⟩
    have hV : PicB w4 w3.heap.size nw nh (.slice a0 nn c0) := by rw [hw]; exact HN.out.setRow _ _ _
    have hw4 : Below w3.heap.size w3 w4 := by rw [hw]; exact below_setRow ((Below.refl _ _).alloc (Nat.le_refl _) _) (Nat.le_refl _) _
    have zw4 : w3.heap.size < w4.heap.size := by rw [hw]; simp
    have HW := Lib.hid hw; clear hw
    replace Ap := Lib.hid (Ap.out.below hw4 (by omega))
    replace Lp := Lib.hid (Lp.out.below hw4 (by omega))
    replace HB := Lib.hid (HB.out.trans (hw4.mono (by omega)))
    replace R0 := Lib.hid (R0.out.below hw4 (by omega))
    have Va := Lib.hid hV; clear hV hw4
    go_wp2_with (first | (refine storeP w3.heap.size HN.out rfl rfl rfl rfl rfl ?_; rw [← HW.out]) | refine loadL (w.heap.size + 0) Lp.out rfl rfl rfl ?_)
    clear HW HN
    refine (toPicture_any _ _ _ pl pb _ (Ap.out.mono (by omega)) (by omega) rfl).mono ?_; rintro e w5 ⟨g2, rfl, k2, b2, hw5⟩
    have zw5 : w4.heap.size ≤ w5.heap.size := hw5.size
    replace Ap := Lib.hid (Ap.out.below hw5 (by omega))
    replace Lp := Lib.hid (Lp.out.below hw5 (by omega))
    replace HB := Lib.hid (HB.out.trans (hw5.mono (by omega)))
    replace R0 := Lib.hid (R0.out.below hw5 (by omega))
    replace Va := Lib.hid (Va.out.below hw5 (by omega))
    have S2 := Lib.hid (MadeInt.sn k2 b2); clear k2 b2
    clear hw5
    have HN := Lib.hid (show PicB (w5.alloc (.cells #[.int .i64 0, .int .i64 0, .slice none 0 0] 24)) w5.heap.size 0 0 (.slice none 0 0) from PicB.new' rfl)
    obtain ⟨w6, hw⟩ : ∃ w6, w6 = (w5.alloc (.cells #[.int .i64 0, .int .i64 0, .slice none 0 0] 24)).setRow w5.heap.size #[.int .i64 pw, .int .i64 ph, .slice (some ⟨g2, 0, none⟩) pl pl] := ⟨_, rfl⟩
    have hV : PicB w6 w5.heap.size pw ph (.slice (some ⟨g2, 0, none⟩) pl pl) := by rw [hw]; exact HN.out.setRow _ _ _
    have hw6 : Below w5.heap.size w5 w6 := by rw [hw]; exact below_setRow ((Below.refl _ _).alloc (Nat.le_refl _) _) (Nat.le_refl _) _
    have zw6 : w5.heap.size < w6.heap.size := by rw [hw]; simp
    have HW := Lib.hid hw; clear hw
    replace Ap := Lib.hid (Ap.out.below hw6 (by omega))
    replace Lp := Lib.hid (Lp.out.below hw6 (by omega))
    replace HB := Lib.hid (HB.out.trans (hw6.mono (by omega)))
    replace R0 := Lib.hid (R0.out.below hw6 (by omega))
    replace Va := Lib.hid (Va.out.below hw6 (by omega))
    replace S2 := Lib.hid (S2.out.below hw6 (by omega))
    have Vx := Lib.hid hV; clear hV hw6
    go_wp2_with (first | (refine storeP w5.heap.size HN.out rfl rfl rfl rfl rfl ?_; rw [← HW.out]) | refine loadP (w5.heap.size) Vx.out rfl rfl rfl ?_)
    clear HW HN
    refine (HI.out _ _ (S2.out.sr.mono (by omega))).mono ?_; rintro e w7 ⟨a1, c1, rfl, r1, hw7⟩
    have zw7 : w6.heap.size ≤ w7.heap.size := hw7.size
    replace Ap := Lib.hid (Ap.out.below hw7 (by omega))
    replace Lp := Lib.hid (Lp.out.below hw7 (by omega))
    replace HB := Lib.hid (HB.out.trans (hw7.mono (by omega)))
    replace R0 := Lib.hid (R0.out.below hw7 (by omega))
    replace Va := Lib.hid (Va.out.below hw7 (by omega))
    replace S2 := Lib.hid (S2.out.below hw7 (by omega))
    replace Vx := Lib.hid (Vx.out.below hw7 (by omega))
    clear hw7
    have R1 := Lib.hid r1; clear r1
    have HN := Lib.hid (show PicB (w7.alloc (.cells #[.int .i64 0, .int .i64 0, .slice none 0 0] 24)) w7.heap.size 0 0 (.slice none 0 0) from PicB.new' rfl)
    obtain ⟨w8, hw⟩ : ∃ w8, w8 = (w7.alloc (.cells #[.int .i64 0, .int .i64 0, .slice none 0 0] 24)).setRow w7.heap.size #[.int .i64 nw, .int .i64 nh, .slice a1 nn c1] := ⟨_, rfl⟩
    have hV : PicB w8 w7.heap.size nw nh (.slice a1 nn c1) := by rw [hw]; exact HN.out.setRow _ _ _
    have hw8 : Below w7.heap.size w7 w8 := by rw [hw]; exact below_setRow ((Below.refl _ _).alloc (Nat.le_refl _) _) (Nat.le_refl _) _
    have zw8 : w7.heap.size < w8.heap.size := by rw [hw]; simp
    have HW := Lib.hid hw; clear hw
    replace Ap := Lib.hid (Ap.out.below hw8 (by omega))
    replace Lp := Lib.hid (Lp.out.below hw8 (by omega))
    replace HB := Lib.hid (HB.out.trans (hw8.mono (by omega)))
    replace R0 := Lib.hid (R0.out.below hw8 (by omega))
    replace Va := Lib.hid (Va.out.below hw8 (by omega))
    replace S2 := Lib.hid (S2.out.below hw8 (by omega))
    replace Vx := Lib.hid (Vx.out.below hw8 (by omega))
    replace R1 := Lib.hid (R1.out.below hw8 (by omega))
    have Vb := Lib.hid hV; clear hV hw8
    go_wp2_with (first | (refine storeP w7.heap.size HN.out rfl rfl rfl rfl rfl ?_; rw [← HW.out]) | refine loadP (w7.heap.size) Vb.out rfl rfl rfl ?_ | refine loadP (w3.heap.size) Va.out rfl rfl rfl ?_)
    clear HW HN
    refine (eqPicture_yes _ _ _ _ nn _ _ _ (R1.out.sr.mono (by omega)) (R0.out.sr.mono (by omega)) (fun _ _ => rfl) (by omega)).mono ?_; rintro e w9 ⟨rfl, hw9⟩
    have zw9 : w8.heap.size ≤ w9.heap.size := hw9.size
    replace Ap := Lib.hid (Ap.out.below hw9 (by omega))
    replace Lp := Lib.hid (Lp.out.below hw9 (by omega))
    replace HB := Lib.hid (HB.out.trans (hw9.mono (by omega)))
    replace R0 := Lib.hid (R0.out.below hw9 (by omega))
    replace Va := Lib.hid (Va.out.below hw9 (by omega))
    replace S2 := Lib.hid (S2.out.below hw9 (by omega))
    replace Vx := Lib.hid (Vx.out.below hw9 (by omega))
    replace R1 := Lib.hid (R1.out.below hw9 (by omega))
    replace Vb := Lib.hid (Vb.out.below hw9 (by omega))
    clear hw9
    go_wp2_with fail
    refine wp_region_held_drew (S := fun w' => Below w9.heap.size w9 w') (by kernel_rfl) (Below.refl _ _).drew (fun hw10 => ?_)
    have Lp0 := Lp
    have Va0 := Va
    have Vx0 := Vx
    have Vb0 := Vb
    generalize w9.drew = w10 at hw10 ⊢
    have zw10 : w9.heap.size ≤ w10.heap.size := hw10.size
    replace Ap := Lib.hid (Ap.out.below hw10 (by omega))
    replace Lp := Lib.hid (Lp.out.below hw10 (by omega))
    replace HB := Lib.hid (HB.out.trans (hw10.mono (by omega)))
    replace R0 := Lib.hid (R0.out.below hw10 (by omega))
    replace Va := Lib.hid (Va.out.below hw10 (by omega))
    replace S2 := Lib.hid (S2.out.below hw10 (by omega))
    replace Vx := Lib.hid (Vx.out.below hw10 (by omega))
    replace R1 := Lib.hid (R1.out.below hw10 (by omega))
    replace Vb := Lib.hid (Vb.out.below hw10 (by omega))
    refine wpAnyH_take (i := 0) (v := .agg #[.int .i64 pw, .int .i64 ph, .slice (some ⟨g2, 0, none⟩) pl pl]) rfl (by kernel_rfl) (by kernel_rfl) (by kernel_rfl) (fun _ _ _ h => h) (yieldsP w5.heap.size (fun _ h => Vx0.out.below h (by omega)) (by rfl) rfl rfl) hw10 ?_
    refine wpAnyH_take (i := 1) (v := .agg #[.int .i64 pw, .int .i64 ph, .slice pa pl pc]) rfl (by kernel_rfl) (by kernel_rfl) (by kernel_rfl) (fun _ _ _ h => h) (yieldsL (w.heap.size + 0) (fun _ h => Lp0.out.below h (by omega)) (by rfl) rfl rfl) hw10 ?_
    refine wpAnyH_ready (rs := [2]) (by kernel_rfl) (by simp) ?_
    refine AllReadyH.cons rfl (fun K hK => ?_) AllReadyH.nil
    go_simp
    refine (toPicture_any _ _ _ pl pb _ (Ap.out.mono (by omega)) (by omega) rfl).mono ?_; rintro e w11 ⟨g3, rfl, k3, b3, hw11⟩
    have zw11 : w10.heap.size ≤ w11.heap.size := hw11.size
    replace Ap := Lib.hid (Ap.out.below hw11 (by omega))
    replace Lp := Lib.hid (Lp.out.below hw11 (by omega))
    replace HB := Lib.hid (HB.out.trans (hw11.mono (by omega)))
    replace R0 := Lib.hid (R0.out.below hw11 (by omega))
    replace Va := Lib.hid (Va.out.below hw11 (by omega))
    replace S2 := Lib.hid (S2.out.below hw11 (by omega))
    replace Vx := Lib.hid (Vx.out.below hw11 (by omega))
    replace R1 := Lib.hid (R1.out.below hw11 (by omega))
    replace Vb := Lib.hid (Vb.out.below hw11 (by omega))
    refine hK.out _ _ (hw10.trans (hw11.mono (by omega))) (fun Hw11 => ?_)
    clear hK K hw11 hw10
    have S3 := Lib.hid (MadeInt.sn k3 b3); clear k3 b3
    refine wpAnyH_ready (rs := [3]) (by kernel_rfl) (by simp) ?_
    refine AllReadyH.cons rfl (fun K hK => ?_) AllReadyH.nil
    go_simp
    refine (eqPicture_yes _ _ _ _ pl pb pb _ (S2.out.sr.mono (by omega)) (S3.out.sr.mono (by omega)) (fun _ _ => rfl) (by omega)).mono ?_; rintro e w12 ⟨rfl, hw12⟩
    have zw12 : w11.heap.size ≤ w12.heap.size := hw12.size
    replace Ap := Lib.hid (Ap.out.below hw12 (by omega))
    replace Lp := Lib.hid (Lp.out.below hw12 (by omega))
    replace HB := Lib.hid (HB.out.trans (hw12.mono (by omega)))
    replace R0 := Lib.hid (R0.out.below hw12 (by omega))
    replace Va := Lib.hid (Va.out.below hw12 (by omega))
    replace S2 := Lib.hid (S2.out.below hw12 (by omega))
    replace Vx := Lib.hid (Vx.out.below hw12 (by omega))
    replace R1 := Lib.hid (R1.out.below hw12 (by omega))
    replace Vb := Lib.hid (Vb.out.below hw12 (by omega))
    replace S3 := Lib.hid (S3.out.below hw12 (by omega))
    refine hK.out _ _ (Hw11.trans (hw12.mono (by omega))) (fun Hw12 => ?_)
    clear hK K hw12 Hw11
    refine wpAnyH_ready (rs := [4]) (by kernel_rfl) (by simp) ?_
    refine AllReadyH.cons rfl (fun K hK => ?_) AllReadyH.nil
    go_simp
    refine hK.out _ _ Hw12 (fun _ => ?_)
    clear hK K
    refine wpAnyH_done (by kernel_rfl) ?_ _
    clear Lp0
    clear Va0
    clear Vx0
    clear Vb0
    clear Hw12
    clear S3
    go_wp2_with (first | refine loadP (w5.heap.size) Vx.out rfl rfl rfl ?_)
    refine (markPicture_modB _ _ _ pl _ _ _ 1 _ S2.out (by omega) (by omega) (by omega) (by omega)).mono ?_; rintro e w13 ⟨rfl, r, hw13⟩
    clear S2
    have zw13 : w12.heap.size ≤ w13.heap.size := hw13.size
    replace Ap := Lib.hid (Ap.out.modB hw13 (by omega))
    replace Lp := Lib.hid (Lp.out.modB hw13 (by omega))
    replace HB := Lib.hid (HB.out.trans (hw13.below (by omega)))
    replace R0 := Lib.hid (R0.out.modB hw13 (by omega))
    replace Va := Lib.hid (Va.out.modB hw13 (by omega))
    replace Vx := Lib.hid (Vx.out.modB hw13 (by omega))
    replace R1 := Lib.hid (R1.out.modB hw13 (by omega))
    replace Vb := Lib.hid (Vb.out.modB hw13 (by omega))
    clear hw13
    have S2 := Lib.hid r; clear r
    go_wp2_with (first | refine loadP (w7.heap.size) Vb.out rfl rfl rfl ?_ | refine loadP (w3.heap.size) Va.out rfl rfl rfl ?_)
    refine (eqPicture_yes _ _ _ _ nn _ _ _ (R1.out.sr.mono (by omega)) (R0.out.sr.mono (by omega)) (fun _ _ => rfl) (by omega)).mono ?_; rintro e w14 ⟨rfl, hw14⟩
    have zw14 : w13.heap.size ≤ w14.heap.size := hw14.size
    replace Ap := Lib.hid (Ap.out.below hw14 (by omega))
    replace Lp := Lib.hid (Lp.out.below hw14 (by omega))
    replace HB := Lib.hid (HB.out.trans (hw14.mono (by omega)))
    replace R0 := Lib.hid (R0.out.below hw14 (by omega))
    replace Va := Lib.hid (Va.out.below hw14 (by omega))
    replace Vx := Lib.hid (Vx.out.below hw14 (by omega))
    replace R1 := Lib.hid (R1.out.below hw14 (by omega))
    replace Vb := Lib.hid (Vb.out.below hw14 (by omega))
    replace S2 := Lib.hid (S2.out.below hw14 (by omega))
    clear hw14
    go_wp2_with (first | refine loadP (w7.heap.size) Vb.out rfl rfl rfl ?_)
    refine (markPicture_modB _ _ _ nn _ _ _ 1 _ R1.out (by omega) (by omega) (by omega) (by omega)).mono ?_; rintro e w15 ⟨rfl, r, hw15⟩
    clear R1
    have zw15 : w14.heap.size ≤ w15.heap.size := hw15.size
    replace Ap := Lib.hid (Ap.out.modB hw15 (by omega))
    replace Lp := Lib.hid (Lp.out.modB hw15 (by omega))
    replace HB := Lib.hid (HB.out.trans (hw15.below (by omega)))
    replace R0 := Lib.hid (R0.out.modB hw15 (by omega))
    replace Va := Lib.hid (Va.out.modB hw15 (by omega))
    replace Vx := Lib.hid (Vx.out.modB hw15 (by omega))
    replace Vb := Lib.hid (Vb.out.modB hw15 (by omega))
    replace S2 := Lib.hid (S2.out.modB hw15 (by omega))
    clear hw15
    have R1 := Lib.hid r; clear r
    go_wp2_with (first | refine loadP (w7.heap.size) Vb.out rfl rfl rfl ?_)
    refine (heldPicture_any _ _ _ nn _ 1 _ R1.out.sr (by omega) (by omega) (by omega) (by omega)).mono ?_; rintro e w16 ⟨rfl, hw16⟩
    have zw16 : w15.heap.size ≤ w16.heap.size := hw16.size
    replace Ap := Lib.hid (Ap.out.below hw16 (by omega))
    replace Lp := Lib.hid (Lp.out.below hw16 (by omega))
    replace HB := Lib.hid (HB.out.trans (hw16.mono (by omega)))
    replace R0 := Lib.hid (R0.out.below hw16 (by omega))
    replace Va := Lib.hid (Va.out.below hw16 (by omega))
    replace Vx := Lib.hid (Vx.out.below hw16 (by omega))
    replace Vb := Lib.hid (Vb.out.below hw16 (by omega))
    replace S2 := Lib.hid (S2.out.below hw16 (by omega))
    replace R1 := Lib.hid (R1.out.below hw16 (by omega))
    clear hw16
    go_wp2_with (refine loadL (w.heap.size + 0) Lp.out rfl rfl rfl ?_)
    refine (toPicture_any _ _ _ pl pb _ (Ap.out.mono (by omega)) (by omega) rfl).mono ?_; rintro e w17 ⟨g4, rfl, k4, b4, hw17⟩
    have zw17 : w16.heap.size ≤ w17.heap.size := hw17.size
    replace Ap := Lib.hid (Ap.out.below hw17 (by omega))
    replace Lp := Lib.hid (Lp.out.below hw17 (by omega))
    replace HB := Lib.hid (HB.out.trans (hw17.mono (by omega)))
    replace R0 := Lib.hid (R0.out.below hw17 (by omega))
    replace Va := Lib.hid (Va.out.below hw17 (by omega))
    replace Vx := Lib.hid (Vx.out.below hw17 (by omega))
    replace Vb := Lib.hid (Vb.out.below hw17 (by omega))
    replace S2 := Lib.hid (S2.out.below hw17 (by omega))
    replace R1 := Lib.hid (R1.out.below hw17 (by omega))
    have S4 := Lib.hid (MadeInt.sn k4 b4); clear k4 b4
    clear hw17
    go_wp2_with fail
    refine (HI.out _ _ (S4.out.sr.mono (by omega))).mono ?_; rintro e w18 ⟨a2, c2, rfl, r2, hw18⟩
    have zw18 : w17.heap.size ≤ w18.heap.size := hw18.size
    replace Ap := Lib.hid (Ap.out.below hw18 (by omega))
    replace Lp := Lib.hid (Lp.out.below hw18 (by omega))
    replace HB := Lib.hid (HB.out.trans (hw18.mono (by omega)))
    replace R0 := Lib.hid (R0.out.below hw18 (by omega))
    replace Va := Lib.hid (Va.out.below hw18 (by omega))
    replace Vx := Lib.hid (Vx.out.below hw18 (by omega))
    replace Vb := Lib.hid (Vb.out.below hw18 (by omega))
    replace S2 := Lib.hid (S2.out.below hw18 (by omega))
    replace R1 := Lib.hid (R1.out.below hw18 (by omega))
    replace S4 := Lib.hid (S4.out.below hw18 (by omega))
    clear hw18
    have R2 := Lib.hid r2; clear r2
    have HN := Lib.hid (show PicB (w18.alloc (.cells #[.int .i64 0, .int .i64 0, .slice none 0 0] 24)) w18.heap.size 0 0 (.slice none 0 0) from PicB.new' rfl)
    obtain ⟨w19, hw⟩ : ∃ w19, w19 = (w18.alloc (.cells #[.int .i64 0, .int .i64 0, .slice none 0 0] 24)).setRow w18.heap.size #[.int .i64 nw, .int .i64 nh, .slice a2 nn c2] := ⟨_, rfl⟩
    have hV : PicB w19 w18.heap.size nw nh (.slice a2 nn c2) := by rw [hw]; exact HN.out.setRow _ _ _
    have hw19 : Below w18.heap.size w18 w19 := by rw [hw]; exact below_setRow ((Below.refl _ _).alloc (Nat.le_refl _) _) (Nat.le_refl _) _
    have zw19 : w18.heap.size < w19.heap.size := by rw [hw]; simp
    have HW := Lib.hid hw; clear hw
    replace Ap := Lib.hid (Ap.out.below hw19 (by omega))
    replace Lp := Lib.hid (Lp.out.below hw19 (by omega))
    replace HB := Lib.hid (HB.out.trans (hw19.mono (by omega)))
    replace R0 := Lib.hid (R0.out.below hw19 (by omega))
    replace Va := Lib.hid (Va.out.below hw19 (by omega))
    replace Vx := Lib.hid (Vx.out.below hw19 (by omega))
    replace Vb := Lib.hid (Vb.out.below hw19 (by omega))
    replace S2 := Lib.hid (S2.out.below hw19 (by omega))
    replace R1 := Lib.hid (R1.out.below hw19 (by omega))
    replace S4 := Lib.hid (S4.out.below hw19 (by omega))
    replace R2 := Lib.hid (R2.out.below hw19 (by omega))
    have Vc := Lib.hid hV; clear hV hw19
    go_wp2_with (first | (refine storeP w18.heap.size HN.out rfl rfl rfl rfl rfl ?_; rw [← HW.out]) | refine loadP (w18.heap.size) Vc.out rfl rfl rfl ?_ | refine loadP (w3.heap.size) Va.out rfl rfl rfl ?_)
    clear HW HN
    refine (eqPicture_yes _ _ _ _ nn _ _ _ (R2.out.sr.mono (by omega)) (R0.out.sr.mono (by omega)) (fun _ _ => rfl) (by omega)).mono ?_; rintro e w20 ⟨rfl, hw20⟩
    have zw20 : w19.heap.size ≤ w20.heap.size := hw20.size
    replace Ap := Lib.hid (Ap.out.below hw20 (by omega))
    replace Lp := Lib.hid (Lp.out.below hw20 (by omega))
    replace HB := Lib.hid (HB.out.trans (hw20.mono (by omega)))
    replace R0 := Lib.hid (R0.out.below hw20 (by omega))
    replace Va := Lib.hid (Va.out.below hw20 (by omega))
    replace Vx := Lib.hid (Vx.out.below hw20 (by omega))
    replace Vb := Lib.hid (Vb.out.below hw20 (by omega))
    replace S2 := Lib.hid (S2.out.below hw20 (by omega))
    replace R1 := Lib.hid (R1.out.below hw20 (by omega))
    replace S4 := Lib.hid (S4.out.below hw20 (by omega))
    replace R2 := Lib.hid (R2.out.below hw20 (by omega))
    replace Vc := Lib.hid (Vc.out.below hw20 (by omega))
    clear hw20
    go_wp2_with (first | refine loadP (w7.heap.size) Vb.out rfl rfl rfl ?_)
    refine (heldPicture_any _ _ _ nn _ 1 _ R1.out.sr (by omega) (by omega) (by omega) (by omega)).mono ?_; rintro e w21 ⟨rfl, hw21⟩
    have zw21 : w20.heap.size ≤ w21.heap.size := hw21.size
    replace Ap := Lib.hid (Ap.out.below hw21 (by omega))
    replace Lp := Lib.hid (Lp.out.below hw21 (by omega))
    replace HB := Lib.hid (HB.out.trans (hw21.mono (by omega)))
    replace R0 := Lib.hid (R0.out.below hw21 (by omega))
    replace Va := Lib.hid (Va.out.below hw21 (by omega))
    replace Vx := Lib.hid (Vx.out.below hw21 (by omega))
    replace Vb := Lib.hid (Vb.out.below hw21 (by omega))
    replace S2 := Lib.hid (S2.out.below hw21 (by omega))
    replace R1 := Lib.hid (R1.out.below hw21 (by omega))
    replace S4 := Lib.hid (S4.out.below hw21 (by omega))
    replace R2 := Lib.hid (R2.out.below hw21 (by omega))
    replace Vc := Lib.hid (Vc.out.below hw21 (by omega))
    clear hw21
    go_wp2_with fail
    go_ret
    exact ⟨rfl, HB.out⟩
end Go.Proofs.Ytjogdkeoadkbnaa
